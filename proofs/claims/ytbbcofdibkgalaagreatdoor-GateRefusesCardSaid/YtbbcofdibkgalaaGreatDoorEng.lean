/- The engine: a predicate transformer 'FC' over the model's Code, reckoned by the kernel, and its soundness. -/
import Derived.WalkKit
import Derived.WalkLawsBesides
import Derived.OrdersHeld
import Derived.Deep.MidRow
import Derived.Scope
import Derived.KernelRfl
import Derived.Lib.ConvBytes
import Derived.Laws.BytesArg
set_option linter.unusedVariables false
set_option linter.unusedSimpArgs false
namespace Go.Eng

/-! ### Shapes -/
inductive LK where
  | int (k : IntKind) | bool | str | ptr | pt | slice | map | any | arr (n : Nat)
inductive RK where
  | sc (k : LK) | agg (ks : List LK) | tup (es : List (Bool × List LK))
structure TI where
  rk : RK
  desc : TypeDesc
  zero : Value
  size : Nat
abbrev Tab := List (Nat × TI)
def lk : Tab → Nat → Option TI
  | [], _ => none
  | (k, i) :: r, t => bif Nat.beq k t then some i else lk r t

/-- a list of n values, cell by cell -/
def exA (cs : List Value) : Nat → Nat → List Value
  | _, 0 => []
  | i, n + 1 => cs.getD i undef :: exA cs (i + 1) n
def ex (cs : List Value) (n : Nat) : List Value := exA cs 0 n
theorem exA_eq (cs : List Value) : ∀ (n i : Nat), i + n = cs.length → exA cs i n = cs.drop i
  | 0, i, h => by rw [exA, List.drop_eq_nil_of_le (by omega)]
  | n + 1, i, h => by
    have hi : i < cs.length := by omega
    rw [exA, exA_eq cs n (i + 1) (by omega), List.drop_eq_getElem_cons hi]
    simp [List.getD, hi]
theorem ex_eq {cs : List Value} {n : Nat} (h : cs.length = n) : ex cs n = cs := by
  rw [ex, exA_eq cs n 0 (by omega)]; rfl

def ExK : LK → (List Value → Prop) → Prop
  | .int k, F => ∃ n : Int, F [.int k n]
  | .bool, F => ∃ b : Bool, F [.bool b]
  | .str, F => ∃ s : ByteArray, F [.string s]
  | .ptr, F => ∃ p : Option Addr, F [.pointer p]
  | .pt, F => ∃ b o : Nat, F [.pointer (some ⟨b, o, none⟩)]
  | .slice, F => ∃ (p : Option Addr) (n c : Nat), F [.slice p n c]
  | .map, F => ∃ r : Option Nat, F [.map r]
  | .any, F => ∃ v : Value, F [v]
  | .arr n, F => ∃ cs : List Value, cs.length = n ∧ F (ex cs n)
def ExL : List LK → (List Value → Prop) → Prop
  | [], F => F []
  | k :: r, F => ExK k fun c => ExL r fun d => F (c ++ d)
def ExE : Bool × List LK → (Value → Prop) → Prop
  | (true, ks), F => ExL ks fun cs => F (.agg cs.toArray)
  | (false, [k]), F => ExK k fun cs => match cs with | [v] => F v | _ => False
  | (false, _), _ => False
def ExT : List (Bool × List LK) → (List Value → Prop) → Prop
  | [], F => F []
  | e :: r, F => ExE e fun v => ExT r fun vs => F (v :: vs)
def ExR : RK → (Value → Prop) → Prop
  | .sc (.arr n), F => ∃ cs : List Value, cs.length = n ∧ F (.agg (ex cs n).toArray)
  | .sc k, F => ExK k fun cs => match cs with | [v] => F v | _ => False
  | .agg ks, F => ExL ks fun cs => F (.agg cs.toArray)
  | .tup es, F => ExT es fun vs => F (.tuple vs.toArray)

def AllL : List LK → (List Value → Prop) → Prop
  | [], F => F []
  | .int k :: r, F => ∀ n : Int, AllL r fun d => F (.int k n :: d)
  | .bool :: r, F => ∀ b : Bool, AllL r fun d => F (.bool b :: d)
  | .str :: r, F => ∀ s : ByteArray, AllL r fun d => F (.string s :: d)
  | .ptr :: r, F => ∀ p : Option Addr, AllL r fun d => F (.pointer p :: d)
  | .pt :: r, F => ∀ b o : Nat, AllL r fun d => F (.pointer (some ⟨b, o, none⟩) :: d)
  | .slice :: r, F => ∀ (p : Option Addr) (n c : Nat), AllL r fun d => F (.slice p n c :: d)
  | .map :: r, F => ∀ m : Option Nat, AllL r fun d => F (.map m :: d)
  | .any :: r, F => ∀ v : Value, AllL r fun d => F (v :: d)
  | .arr _ :: _, _ => False
def Cur : List LK → Type → Type
  | [], R => World → R
  | .int _ :: r, R => Int → Cur r R
  | .bool :: r, R => Bool → Cur r R
  | .str :: r, R => ByteArray → Cur r R
  | .ptr :: r, R => Option Addr → Cur r R
  | .pt :: r, R => Nat → Nat → Cur r R
  | .slice :: r, R => Option Addr → Nat → Nat → Cur r R
  | .map :: r, R => Option Nat → Cur r R
  | .any :: r, R => Value → Cur r R
  | .arr _ :: _, _ => Unit
def appC {R : Type} (bad : R) : (ks : List LK) → Cur ks R → List Value → World → R
  | [], I, [], w => I w
  | .int k :: r, I, .int k' n :: vs, w => bif decide (k = k') then appC bad r (I n) vs w else bad
  | .bool :: r, I, .bool b :: vs, w => appC bad r (I b) vs w
  | .str :: r, I, .string s :: vs, w => appC bad r (I s) vs w
  | .ptr :: r, I, .pointer p :: vs, w => appC bad r (I p) vs w
  | .pt :: r, I, .pointer (some ⟨b, o, none⟩) :: vs, w => appC bad r (I b o) vs w
  | .slice :: r, I, .slice p n c :: vs, w => appC bad r (I p n c) vs w
  | .map :: r, I, .map m :: vs, w => appC bad r (I m) vs w
  | .any :: r, I, v :: vs, w => appC bad r (I v) vs w
  | _, _, _, _ => bad

theorem AllL.apply {w : World} : ∀ (ks : List LK) (I : Cur ks Prop) (vs : List Value) (F : List Value → Prop), appC False ks I vs w → AllL ks F → F vs := by
  intro ks
  induction ks with
  | nil => intro I vs F h a; cases vs with
    | nil => exact a
    | cons v r => exact h.elim
  | cons k r ih =>
    intro I vs F h a
    cases vs with
    | nil => cases k <;> exact h.elim
    | cons v vs =>
      cases k
      case int k =>
        cases v <;> try exact h.elim
        rename_i k' n
        by_cases hk : k = k'
        · subst hk; simp only [appC, decide_true, cond_true] at h; exact ih (I n) vs (fun d => F (.int k n :: d)) h (a n)
        · simp only [appC, hk, decide_false, cond_false] at h
      case bool => cases v <;> first | exact h.elim | exact ih _ vs (fun d => F (_ :: d)) h (a _)
      case str => cases v <;> first | exact h.elim | exact ih _ vs (fun d => F (_ :: d)) h (a _)
      case ptr => cases v <;> first | exact h.elim | exact ih _ vs (fun d => F (_ :: d)) h (a _)
      case pt =>
        cases v <;> try exact h.elim
        rename_i p
        rcases p with _ | ⟨b, o, _ | x⟩ <;> first | exact h.elim | exact ih _ vs (fun d => F (_ :: d)) h (a _ _)
      case slice => cases v <;> first | exact h.elim | exact ih _ vs (fun d => F (_ :: d)) h (a _ _ _)
      case map => cases v <;> first | exact h.elim | exact ih _ vs (fun d => F (_ :: d)) h (a _)
      case any => exact ih _ vs (fun d => F (_ :: d)) h (a _)
      case arr => exact h.elim

/-! ### Frames -/
abbrev Fr := Nat → Value
def upd (f : Fr) (d : Nat) (v : Value) : Fr := fun i => bif Nat.beq i d then v else f i
def upo (f : Fr) : Option Tmp → Value → Fr
  | some d, v => upd f d v
  | none, _ => f
def ev (f : Fr) : Operand → Value
  | .tmp t => f t
  | .const v => v
  | .global g => .pointer (some ⟨g, 0, none⟩)
  | .func g => .func (.func g) #[] #[]
def evs (f : Fr) (xs : Array Operand) : List Value := xs.toList.map (ev f)

/-! ### Small words of the transformer -/
def nilW (p : Option Addr) (F : Nat → Nat → Prop) : Prop := match p with | some ⟨b, o, none⟩ => F b o | _ => False
def Sto (w : World) (b o : Nat) (vs : List Value) : Prop := w.there b o vs.length ∧ ∀ v ∈ vs, v.oneCell' = true
def kk (k k' : IntKind) (X : Prop) : Prop := bif decide (k = k') then X else False
def pk (t : Bool) (x y : Value) : Value := match x, y with
  | .bool a, .bool b => .bool (bif t then a else b)
  | x, y => bif t then x else y
def isStr : TypeDesc → Bool | .string => true | _ => false
def isPtr : TypeDesc → Bool | .pointer _ => true | _ => false
def isSl : TypeDesc → Bool | .slice _ => true | _ => false
def isMap : TypeDesc → Bool | .map _ _ => true | _ => false
def isFn : TypeDesc → Bool | .func .. => true | _ => false
def isBoolT : TypeDesc → Bool | .bool => true | _ => false
def isInt : TypeDesc → Bool | .int _ => true | _ => false
def isRow : TypeDesc → Bool | .struct _ => true | .array _ _ => true | _ => false
def dsc (T : Tab) (t : TypeId) (p : TypeDesc → Bool) (X : Prop) : Prop := match lk T t with | some i => bif p i.desc then X else False | none => False
def bitv (op : BinOp) (k : IntKind) (x y : Int) : Int :=
  match op with
  | .and => k.wrap (BitVec.ofInt k.bits x &&& BitVec.ofInt k.bits y).toNat
  | .or => k.wrap (BitVec.ofInt k.bits x ||| BitVec.ofInt k.bits y).toNat
  | .xor => k.wrap (BitVec.ofInt k.bits x ^^^ BitVec.ofInt k.bits y).toNat
  | _ => k.wrap (BitVec.ofInt k.bits x &&& ~~~ BitVec.ofInt k.bits y).toNat

/-- int, string, bool, nil. 'EqV': what else can be compared. -/
def EqV (P : Program) (t : TypeId) (x y : Value) (w : World) (b : Bool) : Prop :=
  (∀ (o p : Operand), (eqGuard .eql t o p x y).run P w = .ok () w ∧ (eqGuard .neq t o p x y).run P w = .ok () w) ∧ (Op.equal t x y).run P w = .ok b w

def binI (op : BinOp) (k : IntKind) (a : Int) (k' : IntKind) (b : Int) (K : Value → Prop) : Prop :=
  match op with
  | .add => kk k k' (K (.int k (k.wrap (a + b))))
  | .sub => kk k k' (K (.int k (k.wrap (a - b))))
  | .mul => kk k k' (K (.int k (k.wrap (a * b))))
  | .quo => b ≠ 0 ∧ kk k k' (K (.int k (k.wrap (a.tdiv b))))
  | .rem => b ≠ 0 ∧ kk k k' (K (.int k (a.tmod b)))
  | .and => kk k k' (K (.int k (bitv .and k a b)))
  | .or => kk k k' (K (.int k (bitv .or k a b)))
  | .xor => kk k k' (K (.int k (bitv .xor k a b)))
  | .andNot => kk k k' (K (.int k (bitv .andNot k a b)))
  | .shl => 0 ≤ b ∧ K (.int k (k.wrap (a * 2 ^ (min b.toNat k.bits))))
  | .shr => 0 ≤ b ∧ K (.int k (a.fdiv (2 ^ (min b.toNat k.bits))))
  | .eql => kk k k' (K (.bool (decide (a = b))))
  | .neq => kk k k' (K (.bool (decide (a ≠ b))))
  | .lss => kk k k' (K (.bool (decide (a < b))))
  | .leq => kk k k' (K (.bool (decide (a ≤ b))))
  | .gtr => kk k k' (K (.bool (decide (a > b))))
  | .geq => kk k k' (K (.bool (decide (a ≥ b))))
def binS (op : BinOp) (a b : ByteArray) (K : Value → Prop) : Prop :=
  match op with
  | .add => a.size + b.size ≤ 9223372036854775807 ∧ K (.string (a ++ b))
  | .eql => K (.bool (decide (a = b)))
  | .neq => K (.bool (decide (a ≠ b)))
  | .lss => K (.bool (Op.bytesLess a.data.toList b.data.toList))
  | .leq => K (.bool (Op.bytesLess a.data.toList b.data.toList || decide (a = b)))
  | .gtr => K (.bool (!(Op.bytesLess a.data.toList b.data.toList || decide (a = b))))
  | .geq => K (.bool (!Op.bytesLess a.data.toList b.data.toList))
  | _ => False
def eqn (op : BinOp) (b : Bool) (K : Value → Prop) : Prop :=
  match op with
  | .eql => K (.bool b)
  | .neq => K (.bool (!b))
  | _ => False
/-- what is said of the world: 'C φ' -/
abbrev Ctx := (World → Prop) → Prop
def nilF (x : Value) (F : Bool → Prop) : Prop := match x with | .func _ _ _ => F false | .nilFunc => F true | _ => False
def fnW (v : Value) (F : Nat → List Value → List Value → Prop) : Prop := match v with | .func (.func h) a c => F h a.toList c.toList | _ => False
def binX (P : Program) (T : Tab) (op : BinOp) (t : TypeId) (x y : Value) (C : Ctx) (K : Value → Prop) : Prop :=
  match x with
  | .int k a => match y with | .int k' b => binI op k a k' b K | _ => False
  | .string a => match y with | .string b => binS op a b K | _ => False
  | .bool a => match y with | .bool b => dsc T t isBoolT (eqn op (a == b) K) | _ => False
  | .pointer a => match y with | .pointer none => dsc T t isPtr (eqn op a.isNone K) | _ => ∃ b, C (fun w => EqV P t x y w b) ∧ eqn op b K
  | .slice a _ _ => match y with | .slice none _ _ => dsc T t isSl (eqn op a.isNone K) | _ => False
  | .map a => match y with | .map none => dsc T t isMap (eqn op a.isNone K) | _ => False
  | .func _ _ _ => False
  | .nilFunc => False
  | .float _ _ => False
  | .complex _ _ _ => False
  | _ => ∃ b, C (fun w => EqV P t x y w b) ∧ eqn op b K
def binW (P : Program) (T : Tab) (op : BinOp) (t : TypeId) (x y : Value) (C : Ctx) (K : Value → Prop) : Prop :=
  match y with
  | .nilFunc => dsc T t isFn (nilF x fun b => eqn op b K)
  | .nilIface => ∃ b, C (fun w => EqV P t x .nilIface w b) ∧ eqn op b K
  | y => binX P T op t x y C K

/-- compared with the literal nil -/
def EqC (P : Program) (t : TypeId) (x : Value) (w : World) (b : Bool) : Prop :=
  (∀ (o : Operand), (eqGuard .eql t o (.const .nilIface) x .nilIface).run P w = .ok () w ∧ (eqGuard .neq t o (.const .nilIface) x .nilIface).run P w = .ok () w) ∧ (Op.equal t x .nilIface).run P w = .ok b w
def binC (P : Program) (T : Tab) (op : BinOp) (t : TypeId) (q : Operand) (x y : Value) (C : Ctx) (K : Value → Prop) : Prop :=
  match q with
  | .const .nilIface => ∃ b, C (fun w => EqC P t x w b) ∧ eqn op b K
  | _ => binW P T op t x y C K

/-- the cells of a value of a type -/
def cellsI (i : TI) (v : Value) : Option (List Value) :=
  bif isRow i.desc then (match v with | .agg cs => some cs.toList | _ => none) else (match v with | .agg _ => none | .tuple _ => none | v => some [v])
def fields (i : TI) : List Field := match i.desc with | .struct fs => fs.toList | _ => []
def nthF : List Field → Nat → Option Field
  | [], _ => none
  | f :: _, 0 => some f
  | _ :: r, n + 1 => nthF r n
/-- cs with d at place o -/
def splice : List Value → Nat → List Value → List Value
  | cs, 0, [] => cs
  | _ :: cs, 0, v :: d => v :: splice cs 0 d
  | c :: cs, o + 1, d => c :: splice cs o d
  | [], _, _ => []
def cut : List Value → Nat → Nat → List Value
  | c :: cs, 0, n + 1 => c :: cut cs 0 n
  | _ :: cs, o + 1, n => cut cs o n
  | _, _, _ => []

def lenW : List Value → Nat → Prop → Prop
  | [], 0, X => X
  | _ :: cs, n + 1, X => lenW cs n X
  | _, _, _ => False
def loadW (T : Tab) (t : TypeId) (b o : Nat) (C : Ctx) (K : Value → Prop) : Prop :=
  match lk T t with
  | some i => match i.rk with
    | .sc k => bif isRow i.desc then
          (match k with | .arr n => ∃ cs : List Value, cs.length = n ∧ C (fun w => w.rangeAt b o cs) ∧ bif Nat.beq n i.size then K (.agg (ex cs n).toArray) else False | _ => False)
        else ExK k fun cs => match cs with | [v] => C (fun w => w.cell? ⟨b, o, none⟩ = some v) ∧ K v | _ => False
    | .agg ks => bif isRow i.desc then ExL ks (fun cs => lenW cs i.size (C (fun w => w.rangeAt b o cs) ∧ K (.agg cs.toArray))) else False
    | _ => False
  | none => False

def rkOf (T : Tab) (t : TypeId) : RK := match lk T t with | some i => i.rk | none => .sc .any
/-- a call of function h -/
def CallW (P : Program) (T : Tab) (ty : TypeId) (h : FuncId) (args : List Value) (w : World) (K : Value → World → Prop) : Prop :=
  Calls P h args.toArray w fun e w' => ExR (rkOf T ty) fun v => e = .returned v ∧ K v w'
def fieldAddrW (T : Tab) (s : TypeId) (x : Value) (fd : Nat) (K : Value → Prop) : Prop :=
  match lk T s with
  | some i => match nthF (fields i) fd with
    | some f => match lk T f.type with
      | some j => bif Nat.beq j.size 0 then False else match x with | .pointer (some ⟨b, o, none⟩) => K (.pointer (some ⟨b, o + f.offset, none⟩)) | _ => False
      | none => False
    | none => False
  | none => False
def fieldW (T : Tab) (s : TypeId) (x : Value) (fd : Nat) (K : Value → Prop) : Prop :=
  match lk T s with
  | some i => match nthF (fields i) fd with
    | some f => match lk T f.type with
      | some j => match x with
        | .agg cs => bif isRow j.desc then K (.agg (cut cs.toList f.offset j.size).toArray)
            else (match cut cs.toList f.offset 1 with | [v] => K v | _ => False)
        | _ => False
      | none => False
    | none => False
  | none => False
def indexAddrW (T : Tab) (t : TypeId) (x ix : Value) (K : Value → Prop) : Prop :=
  match lk T t with
  | some i => match ix with
    | .int _ n => match i.desc with
      | .slice e => match lk T e with
        | some j => (match x with
          | .slice p len _ => 0 ≤ n ∧ n < (len : Int) ∧ nilW p fun b o => K (.pointer (some ⟨b, o + n.toNat * j.size, none⟩))
          | _ => False)
        | none => False
      | .array len e => match lk T e with
        | some j => (match x with
          | .pointer (some ⟨b, o, none⟩) => 0 ≤ n ∧ n < (len : Int) ∧ K (.pointer (some ⟨b, o + n.toNat * j.size, none⟩))
          | _ => False)
        | none => False
      | _ => False
    | _ => False
  | none => False
def indexW (T : Tab) (t : TypeId) (x ix : Value) (K : Value → Prop) : Prop :=
  match lk T t with
  | some i => match ix with
    | .int _ n => match i.desc with
      | .string => match x with
        | .string s => 0 ≤ n ∧ ∃ c : UInt8, s.data.toList[n.toNat]? = some c ∧ K (.int .u8 c.toNat)
        | _ => False
      | .array len e => match lk T e with
        | some j => match x with
          | .agg cs => bif isRow j.desc then False else 0 ≤ n ∧ n < (len : Int) ∧ j.size = 1 ∧ ExR j.rk fun v => cs.toList[n.toNat]? = some v ∧ K v
          | _ => False
        | none => False
      | _ => False
    | _ => False
  | none => False
/-- a bound of a slice expression -/
def bnd : Option Value → Nat → (Nat → Prop) → Prop
  | none, d, F => F d
  | some (.int _ n), _, F => 0 ≤ n ∧ F n.toNat
  | _, _, _ => False
def shiftP (p : Option Addr) (k : Nat) : Option Addr := match p with | some ⟨b, o, _⟩ => some ⟨b, o + k, none⟩ | none => none
def sliceW (T : Tab) (t : TypeId) (x : Value) (lo hi : Option Value) (K : Value → Prop) : Prop :=
  match lk T t with
  | some i => match i.desc with
    | .string => match x with
      | .string s => bnd lo 0 fun l => bnd hi s.size fun h => l ≤ h ∧ h ≤ s.size ∧ K (.string (s.extract l h))
      | _ => False
    | .slice e => match lk T e with
      | some j => match x with
        | .slice p n c => bnd lo 0 fun l => bnd hi n fun h => l ≤ h ∧ h ≤ c ∧ bif Nat.ble 1 j.size then ∀ q : Option Addr, (0 < l → l < c → q = shiftP p (l * j.size)) → (l = 0 → q = p) → K (.slice q (h - l) (c - l)) else False
        | _ => False
      | none => False
    | .array n e => match lk T e with
      | some j => match x with
        | .pointer (some ⟨b, o, none⟩) => bnd lo 0 fun l => bnd hi n fun h => l ≤ h ∧ h ≤ n ∧ bif Nat.ble 1 j.size then ∀ q : Option Addr, (l < n → q = some ⟨b, o + l * j.size, none⟩) → (l = 0 → q = some ⟨b, o, none⟩) → K (.slice q (h - l) (n - l)) else False
        | _ => False
      | none => False
    | _ => False
  | none => False
def BytesAt (w : World) (p : Option Addr) (n : Nat) (s : ByteArray) : Prop := s.size = n ∧ ∀ j, j < n → nilW p fun b o => w.cell? ⟨b, o + j, none⟩ = some (.int .u8 ((s.data.toList.getD j 0).toNat : Int))
def convQ (T : Tab) (src dst : TypeId) (x : Value) (C : Ctx) (K : Value → Prop) : Prop :=
  match lk T src, lk T dst with
  | some i, some j => match x with
    | .int _ n => match j.desc with | .int k' => K (.int k' (k'.wrap n)) | _ => False
    | .string s => match j.desc with | .string => K (.string s) | _ => False
    | .slice p n c => match i.desc, j.desc with
      | .slice e, .string => match lk T e with
        | some u => (match u.desc with
          | .int .u8 => ∃ s : ByteArray, C (fun w => BytesAt w p n s) ∧ K (.string s)
          | _ => False)
        | none => False
      | _, _ => False
    | _ => False
  | _, _ => False
/-- '[]byte(s)' -/
def isB (T : Tab) (dst : TypeId) : Option TypeId :=
  match lk T dst with
  | some j => match j.desc with
    | .slice e => match lk T e with
      | some u => (match u.desc with | .int .u8 => some e | _ => none)
      | none => none
    | _ => none
  | none => none
def convB (T : Tab) (src dst : TypeId) (x : Value) (w : World) (K : Value → World → Prop) : Prop :=
  match lk T src, isB T dst, x with
  | some i, some e, .string s => bif isStr i.desc then ∀ b c w1, b = w.heap.size → c = grownCap w s.size 0 e → w1 = Lib.bytesWorld w e s → K (.slice (some ⟨b, 0, none⟩) s.size c) w1 else False
  | _, _, _ => False
def partAt (T : Tab) (t : TypeId) (N o : Nat) (v : Value) (d : List (Nat × List Value)) (F : List (Nat × List Value) → Prop) : Prop :=
  match lk T t with
  | some j => bif Nat.ble (o + j.size) N then (match cellsI j v with
    | some cs => lenW cs j.size (F ((o, cs) :: d))
    | none => False) else False
  | none => False
/-- the places of a struct's or an array's parts -/
def partsW (T : Tab) (i : TI) (N : Nat) : List (Nat × Value) → (List (Nat × List Value) → Prop) → Prop
  | [], F => F []
  | (n, v) :: r, F => partsW T i N r fun d => match i.desc with
      | .struct _ => match nthF (fields i) n with
        | some f => partAt T f.type N f.offset v d F
        | none => False
      | .array _ e => (match lk T e with | some j => partAt T e N (n * j.size) v d F | none => False)
      | .slice e => (match lk T e with | some j => partAt T e N (n * j.size) v d F | none => False)
      | _ => False
def spl : List Value → List (Nat × List Value) → List Value
  | cs, [] => cs
  | cs, (o, d) :: r => spl (splice cs o d) r
def bOk (T : Tab) (i : TI) : Bool := match i.desc with
  | .struct fs => fs.toList.all fun f => match lk T f.type with | some _ => true | none => false
  | .array _ e => (match lk T e with | some _ => true | none => false)
  | _ => false
def buildW (T : Tab) (t : TypeId) (parts : List (Nat × Value)) (K : Value → Prop) : Prop :=
  match lk T t with
  | some i => bif bOk T i then partsW T i i.size parts fun ps => K (.agg (spl i.zero.cells.toList ps).toArray) else False
  | none => False
def reps : Nat → List Value → List Value
  | 0, _ => []
  | n + 1, z => z ++ reps n z
def allocW (w : World) (cs : List Value) (t : TypeId) (F : Nat → World → Prop) : Prop := ∀ b w1, b = w.heap.size → w1 = w.alloc (.cells cs.toArray t) → F b w1
def buildSliceW (T : Tab) (t : TypeId) (len : Nat) (parts : List (Nat × Value)) (w : World) (K : Value → World → Prop) : Prop :=
  match lk T t with
  | some i => match i.desc with
    | .slice e => match lk T e with
      | some j => bif Nat.ble (len * j.size) 65536 then partsW T i (len * j.size) parts fun ps =>
          allocW w (spl (reps len j.zero.cells.toList) ps) e fun b w1 => K (.slice (some ⟨b, 0, none⟩) len len) w1
        else False
      | none => False
    | _ => False
  | none => False
def MapLen (w : World) (m : Option Nat) (n : Nat) : Prop := match m with | none => n = 0 | some r => ∃ es ck, w.heap[r]? = some (.map es ck) ∧ n = es.size
def bltQ (T : Tab) (b : Builtin) (argTypes : Array TypeId) (args : List Value) (C : Ctx) (K : Value → Prop) : Prop :=
  match b with
  | .len => match argTypes.toList with
    | t :: _ => (match args with
      | [.string s] => dsc T t isStr (K (.int .i64 (s.size : Int)))
      | [.slice _ n _] => dsc T t isSl (K (.int .i64 (n : Int)))
      | [.map m] => dsc T t isMap (∃ n : Nat, C (fun w => MapLen w m n) ∧ K (.int .i64 (n : Int)))
      | _ => False)
    | _ => False
  | .cap => match argTypes.toList with
    | t :: _ => (match args with
      | [.slice _ _ c] => dsc T t isSl (K (.int .i64 (c : Int)))
      | _ => False)
    | _ => False
  | .min => match args with | [.int k a, .int _ b] => K (.int k (if b < a then b else a)) | _ => False
  | .max => match args with | [.int k a, .int _ b] => K (.int k (if b > a then b else a)) | _ => False
  | _ => False
def bltW (P : Program) (b : Builtin) (argTypes : Array TypeId) (ty : TypeId) (args : List Value) (w : World) (K : Value → World → Prop) : Prop :=
  match b with
  | .append => ∃ p n c w1, (Builtin.append_ argTypes ty args.toArray).run P w = .ok (.slice p n c) w1 ∧ K (.slice p n c) w1
  | .copy => ∃ n w1, (Builtin.copy_ argTypes ty args.toArray).run P w = .ok (.int .i64 n) w1 ∧ K (.int .i64 n) w1
  | .delete => ∃ w1, (Builtin.delete_ argTypes ty args.toArray).run P w = .ok (.tuple #[]) w1 ∧ K (.tuple #[]) w1
  | _ => False

/-- The functions that may be called; and, for a map that is ranged over, the kinds of its key and its value, by the slot that 'entry' fills. -/
structure Env where
  fs : List Nat
  nx : List (Nat × List (Bool × List LK))
def lkx : List (Nat × List (Bool × List LK)) → Nat → List (Bool × List LK)
  | [], _ => []
  | (k, l) :: r, d => bif Nat.beq k d then l else lkx r d
def nxl (s : Bool) : List (Bool × List LK) := bif s then [(false, [.int .i64]), (false, [.int .i32])] else [(false, [.any]), (false, [.any])]

/-- One operation that leaves the world as it is. -/
def opV (P : Program) (T : Tab) (fok : Env) (o : Oper) (f : Fr) (C : Ctx) (K : Value → Prop) : Prop :=
  match o.op with
  | .move x => K (ev f x)
  | .assign x => K (ev f x)
  | .pick c a b => match ev f c with | .bool t => K (pk t (ev f a) (ev f b)) | _ => False
  | .binOp op t x y _ => binC P T op t y (ev f x) (ev f y) C K
  | .unOp op _ x => match op, ev f x with
    | .not, .bool b => K (.bool (!b))
    | .neg, .int k n => K (.int k (k.wrap (0 - n)))
    | .xor, .int k n => K (.int k (bitv .xor k (if k.signed then -1 else k.max) n))
    | _, _ => False
  | .build t ps => buildW T t (ps.toList.map fun (i, x) => (i, ev f x)) K
  | .load t a => match ev f a with | .pointer (some ⟨b, o, none⟩) => loadW T t b o C K | _ => False
  | .nilCheck x => match ev f x with
    | .pointer p => nilW p fun b o => K (.pointer (some ⟨b, o, none⟩))
    | .func (.func g) a c => K (.func (.func g) a c)
    | _ => False
  | .convert s d x => convQ T s d (ev f x) C K
  | .makeFunc fn a c => K (.func fn (a.map (ev f)) (c.map (ev f)))
  | .slice t x lo hi none => sliceW T t (ev f x) (lo.map (ev f)) (hi.map (ev f)) K
  | .fieldAddr s x n => fieldAddrW T s (ev f x) n K
  | .field s x n => fieldW T s (ev f x) n K
  | .indexAddr t x i => indexAddrW T t (ev f x) (ev f i) K
  | .index t x i => indexW T t (ev f x) (ev f i) K
  | .lookup t m k ok => ExR (rkOf T o.type) fun v => C (fun w => (Instr.lookup t (ev f m) (ev f k) ok).run P w = .ok v w) ∧ K v
  | .entry it => ExT (match o.dst with | some d => lkx fok.nx d | none => []) fun vs => C (fun w => (Instr.entry (ev f it)).run P w = .ok (.tuple vs.toArray) w) ∧ K (.tuple vs.toArray)
  | .makeInterface t x => P.concrete t = true ∧ K (.iface t (ev f x))
  | .extract t n => match ev f t with | .tuple vs => (match cut vs.toList n 1 with | [v] => K v | _ => False) | _ => False
  | .call c => match c.callee with
    | .builtin b => bltQ T b c.argTypes (evs f c.args) C K
    | _ => False
  | _ => False
/-- Does an operation change the world? -/
def loud (T : Tab) (o : Oper) : Bool :=
  match o.op with
  | .alloc _ => true
  | .box _ _ => true
  | .buildSlice _ _ _ => true
  | .store _ _ _ => true
  | .convert _ d _ => (match isB T d with | some _ => true | none => false)
  | .makeMap _ _ => true
  | .makeSlice _ _ _ => true
  | .mapUpdate _ _ _ _ => true
  | .insert _ _ _ _ => true
  | .range _ _ => true
  | .next _ _ => true
  | .call c => (match c.callee with
    | .builtin .append => true
    | .builtin .copy => true
    | .builtin .delete => true
    | .builtin _ => false
    | _ => true)
  | _ => false
def opL (P : Program) (T : Tab) (fok : Env) (o : Oper) (f : Fr) (w : World) (K : Value → World → Prop) : Prop :=
  match o.op with
  | .alloc t => match lk T t with
    | some i => allocW w i.zero.cells.toList t fun b w1 => K (.pointer (some ⟨b, 0, none⟩)) w1
    | none => False
  | .box t x => match lk T t with
    | some i => match cellsI i (ev f x) with
      | some cs => allocW w cs t fun b w1 => K (.pointer (some ⟨b, 0, none⟩)) w1
      | none => False
    | none => False
  | .buildSlice t n ps => buildSliceW T t n (ps.toList.map fun (i, x) => (i, ev f x)) w K
  | .store t a x => match ev f a with
    | .pointer (some ⟨b, o, none⟩) => match lk T t with
      | some i => match cellsI i (ev f x) with
        | some cs => lenW cs i.size (Sto w b o cs ∧ ∀ w1, w1 = w.setCells b o cs → K undef w1)
        | none => False
      | none => False
    | _ => False
  | .convert s d x => convB T s d (ev f x) w K
  | .makeMap t none => ∀ b w1, b = w.heap.size → w1 = w.alloc (.map #[] 0) → K (.map (some b)) w1
  | .makeSlice t n c => ∃ p m k w1, (Instr.makeSlice t (ev f n) (ev f c)).run P w = .ok (.slice p m k) w1 ∧ K (.slice p m k) w1
  | .mapUpdate t m k x => ∃ w1, (Instr.mapUpdate t (ev f m) (ev f k) (ev f x)).run P w = .ok () w1 ∧ K undef w1
  | .insert t m k x => ∃ w1, (Instr.mapUpdate t (ev f m) (ev f k) (ev f x)).run P w = .ok () w1 ∧ K undef w1
  | .range t x => ∃ v w1, (Instr.range t (ev f x)).run P w = .ok v w1 ∧ K v w1
  | .next it s => (∃ w1, (Instr.next (ev f it) s o.type).run P w = .ok (.tuple #[.bool false]) w1 ∧ K (.tuple #[.bool false]) w1) ∨
      ExT (nxl s) fun vs => ∃ w1, (Instr.next (ev f it) s o.type).run P w = .ok (.tuple (.bool true :: vs).toArray) w1 ∧ K (.tuple (.bool true :: vs).toArray) w1
  | .call c => match c.callee with
    | .builtin b => bltW P b c.argTypes o.type (evs f c.args) w K
    | .value g => fnW (ev f g) fun h a cp => bif fok.fs.contains h then CallW P T o.type h ((a ++ evs f c.args) ++ cp) w K else False
    | _ => False
  | _ => False
/-- One operation: 'K' of the value that it leaves. -/
def opW (P : Program) (T : Tab) (fok : Env) (o : Oper) (f : Fr) (w : World) (K : Value → World → Prop) : Prop :=
  bif loud T o then opL P T fok o f w K else opV P T fok o f (fun φ => φ w) fun v => K v w

/-! ### Regions -/
def gslot (ops : List Oper) (j : Nat) : Option Tmp := match ops[j]? with | some o => o.dst | none => none
def opsW (P : Program) (T : Tab) (fok : Env) (all : List Oper) : List Oper → Fr → World → (Fr → World → Prop) → Prop
  | [], f, w, K => K f w
  | o :: r, f, w, K => match o.guard with
    | none => opW P T fok o f w fun v w' => opsW P T fok all r (upo f o.dst v) w' K
    | some (j, want) => match gslot all j with
      | some g => (match f g with
        | .bool t => cond t
            (match want with
              | true => opW P T fok o (upd f g (.bool true)) w fun v w' => opsW P T fok all r (upo (upd f g (.bool true)) o.dst v) w' K
              | false => opsW P T fok all r (upo (upd f g (.bool true)) o.dst undef) w K)
            (match want with
              | true => opsW P T fok all r (upo (upd f g (.bool false)) o.dst undef) w K
              | false => opW P T fok o (upd f g (.bool false)) w fun v w' => opsW P T fok all r (upo (upd f g (.bool false)) o.dst v) w' K)
        | .tuple _ => opsW P T fok all r (upo f o.dst undef) w K
        | _ => False)
      | none => False

/-- The orders of a region that draws: 'op': the one that is taken; 'alt': one of those that may come up. -/
inductive DT where
  | done | op (i : Nat) (r : DT) | alt (i : Nat) (r s : DT) | none
/-- Does what an operation yields hang on the world? -/
def rd (T : Tab) (o : Oper) : Bool :=
  match o.op with
  | .load _ _ => true
  | .lookup _ _ _ _ => true
  | .entry _ => true
  | .binOp _ t _ _ _ => (match lk T t with | some i => !(isInt i.desc || isStr i.desc || isBoolT i.desc || isSl i.desc || isMap i.desc || isFn i.desc) | none => true)
  | .convert s _ _ => (match lk T s with | some i => isSl i.desc | none => true)
  | .call _ => true
  | _ => false
/-- 'S' is asked behind operation j if one that reads may come up behind it. -/
def ned (T : Tab) (all : List Oper) (j : Nat) : Bool :=
  match all[j]? with
  | some oj => all.zipIdx.any fun p => !(loud T p.1) && rd T p.1 && !(Nat.beq p.2 j) && !(oj.after.any fun e => Region.binds .any e && Nat.beq e.on p.2)
  | none => true
def andIf (b : Bool) (A B : Prop) : Prop := bif b then A ∧ B else B
def ctxS (b : Bool) (S : World → Prop) : Ctx := bif b then fun φ => ∀ w', S w' → φ w' else fun φ => ∀ w', φ w'
/-- one operation within it: 'S' holds behind it, if one that reads may come up later; what reads, reads what S tells. -/
def dopO (P : Program) (T : Tab) (fok : Env) (S : World → Prop) (nd : Bool) (o : Oper) (f : Fr) (w : World) (K : Fr → World → Prop) : Prop :=
  bif loud T o then opL P T fok o f w fun v w' => andIf nd (S w') (K (upo f o.dst v) w')
  else opV P T fok o f (ctxS (rd T o) S) fun v => K (upo f o.dst v) w
def dopW (P : Program) (T : Tab) (fok : Env) (S : World → Prop) (all : List Oper) (i : Nat) (f : Fr) (w : World) (K : Fr → World → Prop) : Prop :=
  match all[i]? with
  | none => False
  | some o =>
    match o.guard with
    | none => dopO P T fok S (ned T all i) o f w K
    | some (j, want) => match gslot all j with
      | some g => (match f g with
        | .bool t => cond t
            (match want with
              | true => dopO P T fok S (ned T all i) o (upd f g (.bool true)) w K
              | false => K (upo (upd f g (.bool true)) o.dst undef) w)
            (match want with
              | true => K (upo (upd f g (.bool false)) o.dst undef) w
              | false => dopO P T fok S (ned T all i) o (upd f g (.bool false)) w K)
        | .tuple _ => K (upo f o.dst undef) w
        | _ => False)
      | none => False
def dopsW (P : Program) (T : Tab) (fok : Env) (S : World → Prop) (all : List Oper) : DT → Fr → World → (Fr → World → Prop) → Prop
  | .done, f, w, K => K f w
  | .op i r, f, w, K => dopW P T fok S all i f w fun f w => dopsW P T fok S all r f w K
  | .alt i r s, f, w, K => (dopW P T fok S all i f w fun f w => dopsW P T fok S all r f w K) ∧ dopsW P T fok S all s f w K
  | .none, _, _, _ => True

end Go.Eng
