/- Plain: SHA-256 over lists of words. -/
namespace Go.Eng

def shaK : List UInt32 := [
  0x428a2f98, 0x71374491, 0xb5c0fbcf, 0xe9b5dba5, 0x3956c25b, 0x59f111f1, 0x923f82a4, 0xab1c5ed5,
  0xd807aa98, 0x12835b01, 0x243185be, 0x550c7dc3, 0x72be5d74, 0x80deb1fe, 0x9bdc06a7, 0xc19bf174,
  0xe49b69c1, 0xefbe4786, 0x0fc19dc6, 0x240ca1cc, 0x2de92c6f, 0x4a7484aa, 0x5cb0a9dc, 0x76f988da,
  0x983e5152, 0xa831c66d, 0xb00327c8, 0xbf597fc7, 0xc6e00bf3, 0xd5a79147, 0x06ca6351, 0x14292967,
  0x27b70a85, 0x2e1b2138, 0x4d2c6dfc, 0x53380d13, 0x650a7354, 0x766a0abb, 0x81c2c92e, 0x92722c85,
  0xa2bfe8a1, 0xa81a664b, 0xc24b8b70, 0xc76c51a3, 0xd192e819, 0xd6990624, 0xf40e3585, 0x106aa070,
  0x19a4c116, 0x1e376c08, 0x2748774c, 0x34b0bcb5, 0x391c0cb3, 0x4ed8aa4a, 0x5b9cca4f, 0x682e6ff3,
  0x748f82ee, 0x78a5636f, 0x84c87814, 0x8cc70208, 0x90befffa, 0xa4506ceb, 0xbef9a3f7, 0xc67178f2]
def shaH : List UInt32 := [0x6a09e667, 0xbb67ae85, 0x3c6ef372, 0xa54ff53a, 0x510e527f, 0x9b05688c, 0x1f83d9ab, 0x5be0cd19]
/-- turned n bits down -/
def ror (x : UInt32) (n : Nat) : UInt32 := UInt32.ofNat (x.toNat / 2 ^ n + x.toNat % 2 ^ n * 2 ^ (32 - n))
def sg0 (x : UInt32) : UInt32 := ror x 7 ^^^ ror x 18 ^^^ UInt32.ofNat (x.toNat / 2 ^ 3)
def sg1 (x : UInt32) : UInt32 := ror x 17 ^^^ ror x 19 ^^^ UInt32.ofNat (x.toNat / 2 ^ 10)
def up0 (x : UInt32) : UInt32 := ror x 2 ^^^ ror x 13 ^^^ ror x 22
def up1 (x : UInt32) : UInt32 := ror x 6 ^^^ ror x 11 ^^^ ror x 25
def shaNext (w : List UInt32) : UInt32 := w.getD (w.length - 16) 0 + w.getD (w.length - 7) 0 + sg0 (w.getD (w.length - 15) 0) + sg1 (w.getD (w.length - 2) 0)
def shaW (w : List UInt32) : Nat → List UInt32
  | 0 => w
  | n + 1 => shaW w n ++ [shaNext (shaW w n)]
theorem shaW_len (w : List UInt32) : ∀ n, (shaW w n).length = w.length + n
  | 0 => rfl
  | n + 1 => by rw [shaW, List.length_append, shaW_len w n]; rfl
structure H8 where
  (a b c d e f g h : UInt32)
  deriving DecidableEq
def H8.list (v : H8) : List UInt32 := [v.a, v.b, v.c, v.d, v.e, v.f, v.g, v.h]
def H8.one (v : H8) (k w : UInt32) : UInt32 := v.h + up1 v.e + ((v.e &&& v.f) ^^^ (~~~ v.e &&& v.g)) + k + w
def H8.two (v : H8) : UInt32 := up0 v.a + ((v.a &&& v.b) ^^^ (v.a &&& v.c) ^^^ (v.b &&& v.c))
def H8.next (v : H8) (k w : UInt32) : H8 := ⟨v.one k w + v.two, v.a, v.b, v.c, v.d + v.one k w, v.e, v.f, v.g⟩
def H8.add (v u : H8) : H8 := ⟨v.a + u.a, v.b + u.b, v.c + u.c, v.d + u.d, v.e + u.e, v.f + u.f, v.g + u.g, v.h + u.h⟩
def shaRounds (w : List UInt32) (v : H8) : Nat → H8
  | 0 => v
  | n + 1 => (shaRounds w v n).next (shaK.getD n 0) (w.getD n 0)
/-- the word of four bytes -/
def word4 (a b c d : UInt8) : UInt32 := UInt32.ofNat (((a.toNat * 256 + b.toNat) * 256 + c.toNat) * 256 + d.toNat)
def words : List UInt8 → List UInt32
  | a :: b :: c :: d :: r => word4 a b c d :: words r
  | _ => []
theorem words_len : ∀ (l : List UInt8), (words l).length = l.length / 4
  | a :: b :: c :: d :: r => by rw [words, List.length_cons, words_len r]; simp only [List.length_cons]; omega
  | [] => rfl
  | [_] => by simp [words]
  | [_, _] => by simp [words]
  | [_, _, _] => by simp [words]
theorem words_get : ∀ (l : List UInt8) (t : Nat) (a b c d : UInt8), l[4 * t]? = some a → l[4 * t + 1]? = some b → l[4 * t + 2]? = some c → l[4 * t + 3]? = some d → (words l)[t]? = some (word4 a b c d)
  | x :: y :: z :: u :: r, 0, a, b, c, d, h1, h2, h3, h4 => by
    simp at h1 h2 h3 h4; subst h1 h2 h3 h4; rfl
  | x :: y :: z :: u :: r, t + 1, a, b, c, d, h1, h2, h3, h4 => by
    have e : 4 * (t + 1) = 4 * t + 4 := by omega
    rw [e] at h1 h2 h3 h4
    rw [words, List.getElem?_cons_succ]
    exact words_get r t a b c d (by simpa using h1) (by simpa [Nat.add_right_comm] using h2) (by simpa [Nat.add_right_comm] using h3) (by simpa [Nat.add_right_comm] using h4)
  | [], t, _, _, _, _, h1, _, _, _ => by simp at h1
  | [_], t, _, _, _, _, h1, h2, _, _ => by cases t <;> simp at h1 h2
  | [_, _], t, _, _, _, _, h1, _, h3, _ => by cases t <;> simp at h1 h3
  | [_, _, _], t, _, _, _, _, h1, _, _, h4 => by cases t <;> simp at h1 h4
/-- a block with eight words -/
def shaTake (h : H8) (b : List UInt8) : H8 := h.add (shaRounds (shaW (words b) 48) h 64)
/-- all whole blocks of a text -/
def shaBlocks (h : H8) (l : List UInt8) : H8 :=
  if l.length < 64 then h else shaBlocks (shaTake h (l.take 64)) (l.drop 64)
 termination_by l.length
 decreasing_by rw [List.length_drop]; omega
def shaRest (l : List UInt8) : List UInt8 := l.drop (l.length / 64 * 64)
def shaH8 : H8 := ⟨0x6a09e667, 0xbb67ae85, 0x3c6ef372, 0xa54ff53a, 0x510e527f, 0x9b05688c, 0x1f83d9ab, 0x5be0cd19⟩
def bytes4 (x : UInt32) : List UInt8 := [UInt8.ofNat (x.toNat / 2 ^ 24), UInt8.ofNat (x.toNat / 2 ^ 16), UInt8.ofNat (x.toNat / 2 ^ 8), UInt8.ofNat x.toNat]
def bytes8 (n : Nat) : List UInt8 := [UInt8.ofNat (n / 2 ^ 56), UInt8.ofNat (n / 2 ^ 48), UInt8.ofNat (n / 2 ^ 40), UInt8.ofNat (n / 2 ^ 32), UInt8.ofNat (n / 2 ^ 24), UInt8.ofNat (n / 2 ^ 16), UInt8.ofNat (n / 2 ^ 8), UInt8.ofNat n]
/-- how many noughts stand between the 128 and the length -/
def shaGap (n : Nat) : Nat := (119 - n % 64) % 64
def shaPad (l : List UInt8) : List UInt8 := l ++ 128 :: (List.replicate (shaGap l.length) 0 ++ bytes8 (8 * l.length))
def H8.bytes (v : H8) : List UInt8 := v.list.flatMap bytes4
def sha256 (l : List UInt8) : List UInt8 := (shaBlocks shaH8 (shaPad l)).bytes
theorem sha256_len (l : List UInt8) : (sha256 l).length = 32 := rfl

/-- the keyed digest -/
def hmacKey (k : List UInt8) : List UInt8 := if k.length > 64 then sha256 k else k
def hmacPad (x : UInt8) (k : List UInt8) : List UInt8 := (k ++ List.replicate (64 - k.length) 0).map (· ^^^ x)
def hmac (k l : List UInt8) : List UInt8 := sha256 (hmacPad 0x5c (hmacKey k) ++ sha256 (hmacPad 0x36 (hmacKey k) ++ l))

theorem shaBlocks_short {h : H8} {l : List UInt8} (hl : l.length < 64) : shaBlocks h l = h := by rw [shaBlocks, if_pos hl]
theorem shaBlocks_cons {h : H8} {b : List UInt8} (hb : b.length = 64) (l : List UInt8) : shaBlocks h (b ++ l) = shaBlocks (shaTake h b) l := by
  rw [shaBlocks, if_neg (by rw [List.length_append]; omega), List.take_append_of_le_length (by omega), List.take_of_length_le (by omega), List.drop_append_of_le_length (by omega), List.drop_of_length_le (by omega), List.nil_append]
/-- by whole blocks, and what is left -/
theorem shaBlocks_append : ∀ (m : Nat) (h : H8) (a l : List UInt8), a.length ≤ m → a.length % 64 = 0 → shaBlocks h (a ++ l) = shaBlocks (shaBlocks h a) l
  | m, h, a, l, hm, h0 => by
    by_cases ha : a.length < 64
    · have : a = [] := List.eq_nil_of_length_eq_zero (by omega)
      subst this
      rw [List.nil_append, shaBlocks_short (l := []) (by simp)]
    · cases m with
      | zero => omega
      | succ m =>
      have h64 : (a.take 64).length = 64 := by rw [List.length_take]; omega
      have e : a = a.take 64 ++ a.drop 64 := (List.take_append_drop 64 a).symm
      rw [e, List.append_assoc, shaBlocks_cons h64, shaBlocks_cons h64]
      exact shaBlocks_append m _ _ _ (by rw [List.length_drop]; omega) (by rw [List.length_drop]; omega)
/-- of a text, as far as whole blocks go -/
def shaSt (l : List UInt8) : H8 := shaBlocks shaH8 (l.take (l.length / 64 * 64))
theorem shaBlocks_rest (h : H8) (l : List UInt8) : shaBlocks h l = shaBlocks h (l.take (l.length / 64 * 64)) := by
  have e : l = l.take (l.length / 64 * 64) ++ l.drop (l.length / 64 * 64) := (List.take_append_drop _ l).symm
  rw (config := { occs := .pos [1] }) [e]
  rw [shaBlocks_append _ _ _ _ (Nat.le_refl _) (by rw [List.length_take]; omega), shaBlocks_short (l := l.drop _) (by rw [List.length_drop]; omega)]
theorem shaSt_eq (l : List UInt8) : shaSt l = shaBlocks shaH8 l := (shaBlocks_rest _ _).symm
theorem shaSt_block {l b : List UInt8} (hl : l.length % 64 = 0) (hb : b.length = 64) : shaSt (l ++ b) = shaTake (shaSt l) b := by
  rw [shaSt_eq, shaSt_eq, shaBlocks_append _ _ _ _ (Nat.le_refl _) hl]
  have := shaBlocks_cons (h := shaBlocks shaH8 l) hb []
  rw [List.append_nil] at this
  rw [this, shaBlocks_short (l := []) (by simp)]
theorem shaSt_part {l b : List UInt8} (h : l.length % 64 + b.length < 64) : shaSt (l ++ b) = shaSt l := by
  have e : (l ++ b).length / 64 * 64 = l.length / 64 * 64 := by rw [List.length_append]; omega
  rw [shaSt, shaSt, e, List.take_append_of_le_length (by omega)]
theorem shaRest_len (l : List UInt8) : (shaRest l).length = l.length % 64 := by rw [shaRest, List.length_drop]; omega
theorem shaRest_part {l b : List UInt8} (h : l.length % 64 + b.length < 64) : shaRest (l ++ b) = shaRest l ++ b := by
  have e : (l ++ b).length / 64 * 64 = l.length / 64 * 64 := by rw [List.length_append]; omega
  rw [shaRest, shaRest, e, List.drop_append_of_le_length (by omega)]
/-- what fills up a block -/
theorem shaSt_full {l b : List UInt8} (h : l.length % 64 + b.length = 64) : shaSt (l ++ b) = shaTake (shaSt l) (shaRest l ++ b) ∧ shaRest (l ++ b) = [] := by
  have e : l = l.take (l.length / 64 * 64) ++ shaRest l := (List.take_append_drop _ l).symm
  constructor
  · have h1 : shaSt (l ++ b) = shaSt (l.take (l.length / 64 * 64) ++ (shaRest l ++ b)) := by rw [← List.append_assoc, ← e]
    rw [h1, shaSt_block (by rw [List.length_take]; omega) (by rw [List.length_append, shaRest_len]; omega)]
    congr 1
    have : (l.take (l.length / 64 * 64)).length = l.length / 64 * 64 := by rw [List.length_take]; omega
    rw [shaSt, this, show l.length / 64 * 64 / 64 * 64 = l.length / 64 * 64 by omega, List.take_take, Nat.min_self, shaSt]
  · rw [shaRest]
    exact List.drop_eq_nil_of_le (by rw [List.length_append]; omega)

end Go.Eng
