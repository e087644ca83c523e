/- Plain: bits, signs of six bits, and back. -/
namespace Go.Eng

/-- of bits, the greatest first -/
def num (l : List Bool) : Nat := l.foldl (fun n b => 2 * n + b.toNat) 0
theorem num_foldl (l : List Bool) : ∀ n, l.foldl (fun n b => 2 * n + b.toNat) n = n * 2 ^ l.length + num l := by
  induction l with
  | nil => intro n; simp [num]
  | cons b r ih =>
    intro n
    have h : num (b :: r) = (2 * 0 + b.toNat) * 2 ^ r.length + num r := ih _
    rw [List.foldl_cons, ih, h, List.length_cons, Nat.pow_succ]
    rw [Nat.mul_zero, Nat.zero_add, Nat.add_mul, Nat.mul_comm 2 n, Nat.mul_assoc, Nat.mul_comm 2, Nat.add_assoc]
theorem num_append (a b : List Bool) : num (a ++ b) = num a * 2 ^ b.length + num b := by
  rw [num, List.foldl_append, num_foldl]; rfl
theorem num_nil : num [] = 0 := rfl
theorem num_cons (b : Bool) (l : List Bool) : num (b :: l) = b.toNat * 2 ^ l.length + num l := by
  have := num_append [b] l
  simpa [num] using this
theorem num_lt (l : List Bool) : num l < 2 ^ l.length := by
  induction l with
  | nil => simp [num]
  | cons b r ih =>
    rw [num_cons, List.length_cons, Nat.pow_succ]
    cases b <;> simp <;> omega
theorem num_div (a b : List Bool) : num (a ++ b) / 2 ^ b.length = num a := by
  rw [num_append, Nat.add_comm, Nat.add_mul_div_right _ _ (Nat.two_pow_pos _), Nat.div_eq_of_lt (num_lt b), Nat.zero_add]
theorem num_mod (a b : List Bool) : num (a ++ b) % 2 ^ b.length = num b := by
  rw [num_append, Nat.add_comm, Nat.add_mul_mod_self_right, Nat.mod_eq_of_lt (num_lt b)]
/-- n bits of a number -/
def bitsN : Nat → Nat → List Bool
  | 0, _ => []
  | n + 1, c => (c / 2 ^ n % 2 == 1) :: bitsN n c
theorem bitsN_len : ∀ n c, (bitsN n c).length = n
  | 0, _ => rfl
  | n + 1, c => by rw [bitsN, List.length_cons, bitsN_len n c]
theorem num_bitsN : ∀ n c, num (bitsN n c) = c % 2 ^ n
  | 0, c => by simp [bitsN, num, Nat.mod_one]
  | n + 1, c => by
    rw [bitsN, num_cons, num_bitsN n c, bitsN_len, Nat.pow_succ, Nat.mod_mul, Nat.mul_comm]
    have : (c / 2 ^ n % 2 == 1).toNat = c / 2 ^ n % 2 := by
      rcases Nat.mod_two_eq_zero_or_one (c / 2 ^ n) with h | h <;> simp [h]
    rw [this, Nat.add_comm]
theorem num_inj : ∀ {a b : List Bool}, a.length = b.length → num a = num b → a = b
  | [], [], _, _ => rfl
  | [], _ :: _, h, _ => by simp at h
  | _ :: _, [], h, _ => by simp at h
  | x :: a, y :: b, h, e => by
    have hl : a.length = b.length := by simpa using h
    rw [num_cons, num_cons, hl] at e
    have h1 := num_lt a
    have h2 := num_lt b
    rw [hl] at h1
    have hxy : x = y := by
      cases x <;> cases y <;> simp at e ⊢ <;> omega
    subst hxy
    rw [num_inj hl (by omega)]
theorem bitsN_num (l : List Bool) : bitsN l.length (num l) = l :=
  num_inj (bitsN_len _ _) (by rw [num_bitsN, Nat.mod_eq_of_lt (num_lt l)])
theorem num_falses (k : Nat) : num (List.replicate k false) = 0 := by
  induction k with
  | zero => rfl
  | succ k ih => rw [List.replicate_succ, num_cons, ih]; simp
theorem num_zero {l : List Bool} (h : num l = 0) : l = List.replicate l.length false :=
  num_inj (by simp) (by rw [h, num_falses])

/-- the bits of bytes -/
def bitsB (b : List UInt8) : List Bool := b.flatMap fun c => bitsN 8 c.toNat
theorem bitsB_cons (c : UInt8) (r : List UInt8) : bitsB (c :: r) = bitsN 8 c.toNat ++ bitsB r := rfl
theorem bitsB_nil : bitsB [] = [] := rfl
theorem bitsB_append (a b : List UInt8) : bitsB (a ++ b) = bitsB a ++ bitsB b := by simp [bitsB]
theorem bitsB_len (b : List UInt8) : (bitsB b).length = 8 * b.length := by
  induction b with
  | nil => rfl
  | cons c r ih => rw [bitsB_cons, List.length_append, bitsN_len, ih, List.length_cons]; omega
/-- the numbers of six bits each; the last is filled up with noughts -/
def six : List Bool → List Nat
  | a :: b :: c :: d :: e :: f :: r => num [a, b, c, d, e, f] :: six r
  | [] => []
  | l => [num (l ++ List.replicate (6 - l.length) false)]
theorem six_cons {p : List Bool} (h : p.length = 6) (r : List Bool) : six (p ++ r) = num p :: six r := by
  match p, h with
  | [a, b, c, d, e, f], _ => rfl
theorem six_short {p : List Bool} (h0 : 0 < p.length) (h : p.length < 6) : six p = [num p * 2 ^ (6 - p.length)] := by
  have : six p = [num (p ++ List.replicate (6 - p.length) false)] := by
    match p, h0, h with
    | [_], _, _ => rfl
    | [_, _], _, _ => rfl
    | [_, _, _], _, _ => rfl
    | [_, _, _, _], _, _ => rfl
    | [_, _, _, _, _], _, _ => rfl
  rw [this, num_append, num_falses, List.length_replicate, Nat.add_zero]
/-- the bits of numbers of six bits each -/
def bits6 (v : List Nat) : List Bool := v.flatMap (bitsN 6)
theorem bits6_cons (c : Nat) (r : List Nat) : bits6 (c :: r) = bitsN 6 c ++ bits6 r := rfl
theorem bits6_append (a b : List Nat) : bits6 (a ++ b) = bits6 a ++ bits6 b := by simp [bits6]
theorem bits6_len (b : List Nat) : (bits6 b).length = 6 * b.length := by
  induction b with
  | nil => rfl
  | cons c r ih => rw [bits6_cons, List.length_append, bitsN_len, ih, List.length_cons]; omega
/-- what is lost of bits by 'six': nothing but noughts that are added -/
theorem bits6_six : ∀ (m : Nat) (l : List Bool), l.length ≤ m → ∃ k, k < 6 ∧ bits6 (six l) = l ++ List.replicate k false
  | 0, l, h => ⟨0, by omega, by rw [List.eq_nil_of_length_eq_zero (Nat.le_zero.1 h)]; rfl⟩
  | m + 1, l, h => by
    by_cases hn : l = []
    · exact ⟨0, by omega, by rw [hn]; rfl⟩
    have h0 : 0 < l.length := List.length_pos_iff.2 hn
    by_cases hl : l.length < 6
    · refine ⟨6 - l.length, by omega, ?_⟩
      rw [six_short h0 hl, bits6_cons]
      have : num l * 2 ^ (6 - l.length) = num (l ++ List.replicate (6 - l.length) false) := by rw [num_append, num_falses, List.length_replicate, Nat.add_zero]
      rw [this]
      have h2 : (l ++ List.replicate (6 - l.length) false).length = 6 := by simp; omega
      have := bitsN_num (l ++ List.replicate (6 - l.length) false)
      rw [h2] at this
      rw [this]; simp [bits6]
    · have h6 : (l.take 6).length = 6 := by rw [List.length_take]; omega
      obtain ⟨k, hk, hb⟩ := bits6_six m (l.drop 6) (by rw [List.length_drop]; omega)
      refine ⟨k, hk, ?_⟩
      have hs : six l = num (l.take 6) :: six (l.drop 6) := by
        rw [← six_cons h6, List.take_append_drop]
      have := bitsN_num (l.take 6)
      rw [h6] at this
      rw [hs, bits6_cons, hb, this, ← List.append_assoc, List.take_append_drop]
theorem six_lt : ∀ (m : Nat) (l : List Bool), l.length ≤ m → ∀ v ∈ six l, v < 64
  | 0, l, h, v, hv => by rw [List.eq_nil_of_length_eq_zero (Nat.le_zero.1 h)] at hv; simp [six] at hv
  | m + 1, l, h, v, hv => by
    by_cases hn : l = []
    · rw [hn] at hv; simp [six] at hv
    have h0 : 0 < l.length := List.length_pos_iff.2 hn
    by_cases hl : l.length < 6
    · have : num l * 2 ^ (6 - l.length) = num (l ++ List.replicate (6 - l.length) false) := by rw [num_append, num_falses, List.length_replicate, Nat.add_zero]
      rw [six_short h0 hl, this, List.mem_singleton] at hv
      have h2 := num_lt (l ++ List.replicate (6 - l.length) false)
      have h3 : (l ++ List.replicate (6 - l.length) false).length = 6 := by simp; omega
      rw [h3] at h2
      omega
    · have h6 : (l.take 6).length = 6 := by rw [List.length_take]; omega
      have hs : six l = num (l.take 6) :: six (l.drop 6) := by
        rw [← six_cons h6, List.take_append_drop]
      rw [hs, List.mem_cons] at hv
      rcases hv with rfl | hv
      · have := num_lt (l.take 6); rw [h6] at this; omega
      · exact six_lt m (l.drop 6) (by rw [List.length_drop]; omega) v hv
/-- six of the bits of numbers -/
theorem six_bits6 : ∀ (v : List Nat), (∀ x ∈ v, x < 64) → six (bits6 v) = v
  | [], _ => rfl
  | x :: r, h => by
    rw [bits6_cons, six_cons (bitsN_len 6 x), num_bitsN, six_bits6 r (fun y hy => h y (by simp [hy])), Nat.mod_eq_of_lt (by have := h x (by simp); omega)]
/-- noughts that fill up the last one count for nothing -/
theorem six_pad : ∀ (m : Nat) (l : List Bool) (k : Nat), l.length ≤ m → k < 6 → (l.length + k) % 6 = 0 → six (l ++ List.replicate k false) = six l
  | 0, l, k, hm, hk, h => by
    have hl := List.eq_nil_of_length_eq_zero (Nat.le_zero.1 hm)
    subst hl
    have : k = 0 := by simp at h; omega
    subst this; rfl
  | m + 1, l, k, hm, hk, h => by
    by_cases hn : l = []
    · subst hn
      have : k = 0 := by simp at h; omega
      subst this; rfl
    have h0 : 0 < l.length := List.length_pos_iff.2 hn
    by_cases hl : l.length < 6
    · have hk6 : k = 6 - l.length := by omega
      subst hk6
      have h6 : (l ++ List.replicate (6 - l.length) false).length = 6 := by simp; omega
      have := six_cons h6 []
      rw [List.append_nil] at this
      rw [this, six_short h0 hl, num_append, num_falses, List.length_replicate, Nat.add_zero]
      rfl
    · have h6 : (l.take 6).length = 6 := by rw [List.length_take]; omega
      have ih := six_pad m (l.drop 6) k (by rw [List.length_drop]; omega) hk (by rw [List.length_drop]; omega)
      have hs : six l = num (l.take 6) :: six (l.drop 6) := by
        rw [← six_cons h6, List.take_append_drop]
      rw [hs, ← ih, ← six_cons h6, ← List.append_assoc, List.take_append_drop]

/-- the whole bytes of bits -/
def eight : List Bool → List UInt8
  | a :: b :: c :: d :: e :: f :: g :: h :: r => UInt8.ofNat (num [a, b, c, d, e, f, g, h]) :: eight r
  | _ => []
theorem eight_cons {p : List Bool} (h : p.length = 8) (r : List Bool) : eight (p ++ r) = UInt8.ofNat (num p) :: eight r := by
  match p, h with
  | [a, b, c, d, e, f, g, i], _ => rfl
theorem eight_short {p : List Bool} (h : p.length < 8) : eight p = [] := by
  match p, h with
  | [], _ => rfl
  | [_], _ => rfl
  | [_, _], _ => rfl
  | [_, _, _], _ => rfl
  | [_, _, _, _], _ => rfl
  | [_, _, _, _, _], _ => rfl
  | [_, _, _, _, _, _], _ => rfl
  | [_, _, _, _, _, _, _], _ => rfl
theorem ofNat_bits (c : UInt8) : UInt8.ofNat (num (bitsN 8 c.toNat)) = c := by
  rw [num_bitsN, Nat.mod_eq_of_lt c.toNat_lt]; exact UInt8.ofNat_toNat
theorem eight_bitsB : ∀ (b : List UInt8) (p : List Bool), p.length < 8 → eight (bitsB b ++ p) = b
  | [], p, h => by rw [bitsB_nil, List.nil_append, eight_short h]
  | c :: r, p, h => by rw [bitsB_cons, List.append_assoc, eight_cons (bitsN_len 8 _), ofNat_bits, eight_bitsB r p h]
/-- bits are bytes, and some that are left -/
theorem eight_split : ∀ (m : Nat) (l : List Bool), l.length ≤ m → ∃ p, p.length < 8 ∧ l = bitsB (eight l) ++ p
  | m, l, hm => by
    by_cases hl : l.length < 8
    · exact ⟨l, hl, by rw [eight_short hl, bitsB_nil, List.nil_append]⟩
    · cases m with
      | zero => omega
      | succ m =>
      have h8 : (l.take 8).length = 8 := by rw [List.length_take]; omega
      obtain ⟨p, hp, hb⟩ := eight_split m (l.drop 8) (by rw [List.length_drop]; omega)
      refine ⟨p, hp, ?_⟩
      have hs : eight l = UInt8.ofNat (num (l.take 8)) :: eight (l.drop 8) := by
        rw [← eight_cons h8, List.take_append_drop]
      have hlt := num_lt (l.take 8)
      rw [h8] at hlt
      have hn := bitsN_num (l.take 8)
      rw [h8] at hn
      have ht : (UInt8.ofNat (num (l.take 8))).toNat = num (l.take 8) := by rw [UInt8.toNat_ofNat']; exact Nat.mod_eq_of_lt hlt
      rw [hs, bitsB_cons, ht, hn, List.append_assoc, ← hb, List.take_append_drop]

/-! ### Signs -/
/-- bytes by signs -/
def enc (sg : List UInt8) (b : List UInt8) : List UInt8 := (six (bitsB b)).map fun n => sg.getD n 0
/-- a sign's place, from i on; 0: there is none -/
def sgVal (sg : List UInt8) (c : UInt8) : Nat := sg.findIdx (· == c)
theorem look_at {sg : List UInt8} (h : sg.length = 64) {n : Nat} (hn : n < 64) : sg[n]? = some (sg.getD n 0) := by
  have hl : n < sg.length := by rw [h]; exact hn
  simp [List.getD, hl]
structure Signs (sg : List UInt8) : Prop where
  len : sg.length = 64
  nodup : sg.Nodup
theorem Signs.val {sg : List UInt8} (h : Signs sg) {n : Nat} (hn : n < 64) : sgVal sg (sg.getD n 0) = n := by
  have hl : n < sg.length := by rw [h.len]; exact hn
  have hg : sg.getD n 0 = sg[n] := by simp [List.getD, hl]
  have := h.nodup
  unfold sgVal
  rw [hg, List.findIdx_eq hl]
  refine ⟨by simp, fun j hj => ?_⟩
  have hjl : j < sg.length := by omega
  have hne : sg[j] ≠ sg[n] := (List.pairwise_iff_getElem.1 h.nodup) j n hjl hl hj
  simpa using hne
theorem val_mem {sg : List UInt8} {c : UInt8} (hc : c ∈ sg) : sgVal sg c < sg.length ∧ sg.getD (sgVal sg c) 0 = c := by
  have hl : sgVal sg c < sg.length := List.findIdx_lt_length_of_exists ⟨c, hc, by simp⟩
  refine ⟨hl, ?_⟩
  have h2 : (sg[sgVal sg c] == c) = true := List.findIdx_getElem (w := hl)
  have hg : sg.getD (sgVal sg c) 0 = sg[sgVal sg c] := by simp [List.getD, hl]
  rw [hg]; simpa using h2
/-- the numbers of signs -/
def vals (sg s : List UInt8) : List Nat := s.map (sgVal sg)
theorem vals_enc {sg : List UInt8} (h : Signs sg) (b : List UInt8) : vals sg (enc sg b) = six (bitsB b) := by
  unfold vals enc
  rw [List.map_map]
  refine (List.map_congr_left fun n hn => ?_).trans (List.map_id _)
  exact h.val (six_lt _ _ (Nat.le_refl _) n hn)
theorem enc_mem {sg : List UInt8} (h : Signs sg) (b : List UInt8) : ∀ c ∈ enc sg b, c ∈ sg := by
  intro c hc
  obtain ⟨n, hn, rfl⟩ := List.mem_map.1 hc
  have := six_lt _ _ (Nat.le_refl _) n hn
  have hl : n < sg.length := by rw [h.len]; exact this
  simp [List.getD, hl]
theorem enc_vals {sg : List UInt8} (s : List UInt8) (hs : ∀ c ∈ s, c ∈ sg) : (vals sg s).map (fun n => sg.getD n 0) = s := by
  unfold vals
  rw [List.map_map]
  exact (List.map_congr_left fun c hc => (val_mem (hs c hc)).2).trans (List.map_id _)
/-- what signs are the bytes of -/
def dec (sg s : List UInt8) : List UInt8 := eight (bits6 (vals sg s))
theorem dec_enc {sg : List UInt8} (h : Signs sg) (b : List UInt8) : dec sg (enc sg b) = b := by
  obtain ⟨k, hk, hb⟩ := bits6_six _ (bitsB b) (Nat.le_refl _)
  rw [dec, vals_enc h, hb, eight_bitsB b _ (by simp; omega)]
theorem enc_inj {sg : List UInt8} (h : Signs sg) {a b : List UInt8} (e : enc sg a = enc sg b) : a = b := by
  rw [← dec_enc h a, e, dec_enc h]
theorem six_len (l : List Bool) : (six l).length * 6 < l.length + 6 ∧ l.length ≤ (six l).length * 6 := by
  obtain ⟨k, hk, hb⟩ := bits6_six _ l (Nat.le_refl _)
  have := congrArg List.length hb
  rw [bits6_len, List.length_append, List.length_replicate] at this
  omega
theorem enc_len (sg b : List UInt8) : (enc sg b).length % 4 ≠ 1 := by
  have := six_len (bitsB b)
  rw [bitsB_len] at this
  simp only [enc, List.length_map]
  omega
/-- bytes whose signs these are: by the bits that are left -/
theorem enc_of_left {sg : List UInt8} (h : Signs sg) {s : List UInt8} (hs : ∀ c ∈ s, c ∈ sg) (h4 : s.length % 4 ≠ 1) {o : List UInt8} {p : List Bool} (hp : p.length < 8) (hb : bits6 (vals sg s) = bitsB o ++ p) :
    o = dec sg s ∧ (num p = 0 ↔ enc sg o = s) := by
  have ho : o = dec sg s := by rw [dec, hb, eight_bitsB o p hp]
  refine ⟨ho, ?_⟩
  have hlen := congrArg List.length hb
  rw [bits6_len, List.length_append, bitsB_len] at hlen
  have hvl : (vals sg s).length = s.length := by simp [vals]
  rw [hvl] at hlen
  have hp6 : p.length < 6 := by omega
  have hv : ∀ x ∈ vals sg s, x < 64 := by
    intro x hx
    obtain ⟨c, hc, rfl⟩ := List.mem_map.1 hx
    have := (val_mem (hs c hc)).1
    rw [h.len] at this; exact this
  constructor
  · intro h0
    rw [num_zero h0] at hb
    have h6 := six_pad _ (bitsB o) p.length (Nat.le_refl _) hp6 (by rw [bitsB_len]; omega)
    rw [enc, ← h6, ← hb, six_bits6 _ hv, enc_vals s hs]
  · intro he
    obtain ⟨k, hk, hb2⟩ := bits6_six _ (bitsB o) (Nat.le_refl _)
    rw [← vals_enc h, he, hb] at hb2
    have := List.append_cancel_left hb2
    rw [this, num_falses]

/-- filled up with = to whole fours -/
def fill4 (s : List UInt8) : List UInt8 := s ++ List.replicate ((4 - s.length % 4) % 4) 61
theorem fill4_inj {sg : List UInt8} (hs : (61 : UInt8) ∉ sg) {a b : List UInt8} (ha : ∀ c ∈ a, c ∈ sg) (hb : ∀ c ∈ b, c ∈ sg) (e : fill4 a = fill4 b) : a = b := by
  have key : ∀ (a : List UInt8) (k : Nat), (∀ c ∈ a, c ∈ sg) → (a ++ List.replicate k (61 : UInt8)).takeWhile (· != 61) = a := by
    intro a k h
    induction a with
    | nil => cases k <;> simp [List.replicate_succ]
    | cons c r ih =>
      have hc : c ≠ 61 := fun e => hs (by rw [← e]; exact h c (by simp))
      simp only [List.cons_append, List.takeWhile_cons, bne_iff_ne, ne_eq, hc, not_false_eq_true, if_true]
      rw [ih fun x hx => h x (by simp [hx])]
  have := congrArg (List.takeWhile (· != 61)) e
  rwa [fill4, fill4, key a _ ha, key b _ hb] at this

end Go.Eng
