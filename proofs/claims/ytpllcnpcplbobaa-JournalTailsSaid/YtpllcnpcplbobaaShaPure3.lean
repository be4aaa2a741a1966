import Derived.Test.YtpllcnpcplbobaaShaPure2
namespace Go.Proofs.Ytpllcnpcplbobaa.Sha
open Go.RowKit
/-! The same digest as the document's text reckons it. -/
theorem bits_or_def (k : IntKind) (a b : Int) : bits .or k a b = k.wrap ((BitVec.ofInt k.bits a ||| BitVec.ofInt k.bits b).toNat : Int) := rfl
theorem bits_or_comm (k : IntKind) (a b : Int) : bits .or k a b = bits .or k b a := by
  rw [bits_or_def, bits_or_def, BitVec.or_comm]
theorem or32 (x y : Nat) (hx : x < 4294967296) (hy : y < 4294967296) (hor : x ||| y < 4294967296) : bits .or .u32 (x : Int) (y : Int) = ((x ||| y : Nat) : Int) := by
  have e : bits .or .u32 (x : Int) (y : Int) = IntKind.u32.wrap ((BitVec.ofInt 32 (x : Int) ||| BitVec.ofInt 32 (y : Int)).toNat : Int) := rfl
  have f : ∀ n : Int, IntKind.u32.wrap n = n % 4294967296 := fun n => rfl
  rw [e, f, BitVec.ofInt_natCast, BitVec.ofInt_natCast, BitVec.toNat_or, BitVec.toNat_ofNat, BitVec.toNat_ofNat,
    Nat.mod_eq_of_lt (by simpa using hx), Nat.mod_eq_of_lt (by simpa using hy)]
  exact Int.emod_eq_of_lt (by omega) (by omega)
theorem or_add (k : Nat) (a b : Int) (ha : 0 ≤ a) (hb : 0 ≤ b) (hbk : b < ((2 ^ k : Nat) : Int)) (h : a * ((2 ^ k : Nat) : Int) + b < 4294967296) : bits .or .u32 (a * ((2 ^ k : Nat) : Int)) b = a * ((2 ^ k : Nat) : Int) + b := by
  obtain ⟨x, rfl⟩ := Int.eq_ofNat_of_zero_le ha
  obtain ⟨y, rfl⟩ := Int.eq_ofNat_of_zero_le hb
  have hy : y < 2 ^ k := by exact_mod_cast hbk
  have e := Nat.two_pow_add_eq_or_of_lt hy x
  rw [Nat.mul_comm] at e
  obtain ⟨q, hq⟩ : ∃ q, q = x * 2 ^ k := ⟨_, rfl⟩
  have c1 : ((x : Int) * ((2 ^ k : Nat) : Int)) = (q : Int) := by rw [hq, Int.natCast_mul]
  rw [c1] at h
  rw [← hq] at e
  rw [c1, or32 _ _ (by omega) (by omega) (by omega), ← e]
  omega
def w4 (a b c d : Int) : Int := ((a * 256 + b) * 256 + c) * 256 + d
/-- Four bytes as a word. -/
def word4 (a b c d : Int) : Int := bits .or .u32 (bits .or .u32 (bits .or .u32 (a * 16777216) (b * 65536)) (c * 256)) d
theorem word4_eq (a b c d : Int) (ha : 0 ≤ a ∧ a < 256) (hb : 0 ≤ b ∧ b < 256) (hc : 0 ≤ c ∧ c < 256) (hd : 0 ≤ d ∧ d < 256) : word4 a b c d = w4 a b c d := by
  have e1 : bits .or .u32 (a * 16777216) (b * 65536) = a * 16777216 + b * 65536 := or_add 24 a (b * 65536) ha.1 (by omega) (by show b * 65536 < 16777216; omega) (by show a * 16777216 + b * 65536 < _; omega)
  have e2 : bits .or .u32 ((a * 256 + b) * 65536) (c * 256) = (a * 256 + b) * 65536 + c * 256 := or_add 16 (a * 256 + b) (c * 256) (by omega) (by omega) (by show c * 256 < 65536; omega) (by show (a * 256 + b) * 65536 + c * 256 < _; omega)
  have e3 : bits .or .u32 (((a * 256 + b) * 256 + c) * 256) d = ((a * 256 + b) * 256 + c) * 256 + d := or_add 8 ((a * 256 + b) * 256 + c) d (by omega) (by omega) (by show d < 256; omega) (by show ((a * 256 + b) * 256 + c) * 256 + d < _; omega)
  unfold word4 w4
  rw [e1, show a * 16777216 + b * 65536 = (a * 256 + b) * 65536 by omega, e2, show (a * 256 + b) * 65536 + c * 256 = ((a * 256 + b) * 256 + c) * 256 by omega, e3]
theorem nth_set (l : List Int) (i j : Nat) (x : Int) (h : i < l.length) : nth (l.set i x) j = if i = j then x else nth l j := by
  unfold nth
  simp only [List.getD_eq_getElem?_getD, List.getElem?_set]
  split
  · subst_vars; simp
  · rfl
theorem byteIn_step (l : List Int) (hl : l.length = 64) (k : Nat) (hk : k < 64) (x y : Int) (hy : nth l (k / 4) = y) (h0 : 0 ≤ y) (h1 : y < 16777216) (hx : 0 ≤ x ∧ x < 256) (j : Nat) :
    nth (byteIn l k x) j = if k / 4 = j then y * 256 + x else nth l j := by
  have e : bits .or .u32 (y * 256) x = y * 256 + x := or_add 8 y x h0 hx.1 hx.2 (by show y * 256 + x < _; omega)
  rw [byteIn, nth_set _ _ _ _ (by omega), hy, Int.emod_eq_of_lt (by omega) (by omega), e]
def wordAt (B : List Int) (i : Nat) : Int := w4 (nth B (4 * i)) (nth B (4 * i + 1)) (nth B (4 * i + 2)) (nth B (4 * i + 3))
theorem nth_bytesIn (B : List Int) (hB : IsBytes B) : ∀ j, j ≤ 16 → ∀ i, nth (bytesIn B (4 * j)) i = if i < j then wordAt B i else 0
  | 0, _, i => by
    simp only [bytesIn, nth, List.getD_eq_getElem?_getD, Nat.not_lt_zero, if_false]
    cases h : (List.replicate 64 (0 : Int))[i]? with
    | none => rfl
    | some v => simpa using (List.eq_of_mem_replicate (List.mem_of_getElem? h))
  | j + 1, hj, i => by
    have ih := nth_bytesIn B hB j (by omega)
    have b0 := hB (4 * j)
    have b1 := hB (4 * j + 1)
    have b2 := hB (4 * j + 2)
    have b3 := hB (4 * j + 3)
    have s0 := byteIn_step (bytesIn B (4 * j)) (length_bytesIn _ _) (4 * j) (by omega) (nth B (4 * j)) 0 (by rw [ih, if_neg (by omega)]) (by omega) (by omega) b0
    have e0 : nth (bytesIn B (4 * j + 1)) j = 0 * 256 + nth B (4 * j) := (s0 j).trans (if_pos (by omega))
    have s1 := byteIn_step (bytesIn B (4 * j + 1)) (length_bytesIn _ _) (4 * j + 1) (by omega) (nth B (4 * j + 1)) (nth B (4 * j)) (by rw [show (4 * j + 1) / 4 = j by omega]; omega) (by omega) (by omega) b1
    have e1 : nth (bytesIn B (4 * j + 2)) j = nth B (4 * j) * 256 + nth B (4 * j + 1) := (s1 j).trans (if_pos (by omega))
    have s2 := byteIn_step (bytesIn B (4 * j + 2)) (length_bytesIn _ _) (4 * j + 2) (by omega) (nth B (4 * j + 2)) (nth B (4 * j) * 256 + nth B (4 * j + 1)) (by rw [show (4 * j + 2) / 4 = j by omega]; omega) (by omega) (by omega) b2
    have e2 : nth (bytesIn B (4 * j + 3)) j = (nth B (4 * j) * 256 + nth B (4 * j + 1)) * 256 + nth B (4 * j + 2) := (s2 j).trans (if_pos (by omega))
    have s3 := byteIn_step (bytesIn B (4 * j + 3)) (length_bytesIn _ _) (4 * j + 3) (by omega) (nth B (4 * j + 3)) ((nth B (4 * j) * 256 + nth B (4 * j + 1)) * 256 + nth B (4 * j + 2)) (by rw [show (4 * j + 3) / 4 = j by omega]; omega) (by omega) (by omega) b3
    have e : nth (bytesIn B (4 * (j + 1))) i = _ := s3 i
    rw [e]
    by_cases hi : i = j
    · subst hi
      rw [if_pos (by omega), if_pos (by omega)]
      rfl
    · rw [if_neg (by omega)]
      have f2 : nth (bytesIn B (4 * j + 3)) i = _ := s2 i
      have f1 : nth (bytesIn B (4 * j + 2)) i = _ := s1 i
      have f0 : nth (bytesIn B (4 * j + 1)) i = _ := s0 i
      rw [f2, if_neg (by omega), f1, if_neg (by omega), f0, if_neg (by omega), ih]
      by_cases h : i < j
      · rw [if_pos h, if_pos (by omega)]
      · rw [if_neg h, if_neg (by omega)]
theorem nth_spread_low (B : List Int) (m : Nat) : ∀ d i, i < 16 + m → m + d ≤ 48 → nth (spreadTo B (m + d)) i = nth (spreadTo B m) i
  | 0, i, _, _ => rfl
  | d + 1, i, h, hd => by
    have ih := nth_spread_low B m d i h (by omega)
    rw [← Nat.add_assoc, spreadTo, nth_set _ _ _ _ (by rw [length_spreadTo]; omega), if_neg (by omega), ih]
theorem spread_word (B : List Int) (hB : IsBytes B) (i : Nat) (hi : i < 16) : nth (spread B) i = wordAt B i := by
  have h := nth_spread_low B 0 48 i (by omega) (by omega)
  rw [Nat.zero_add] at h
  rw [spread, h, spreadTo]
  have := nth_bytesIn B hB 16 (by omega) i
  rw [this, if_pos hi]
theorem spread_next (B : List Int) (m : Nat) (hm : m < 48) : nth (spread B) (m + 16) = next (spread B) (m + 16) := by
  have h : ∀ i, i < 16 + m → nth (spread B) i = nth (spreadTo B m) i := fun i hi => by
    have := nth_spread_low B m (48 - m) i hi (by omega)
    rw [show m + (48 - m) = 48 by omega] at this
    exact this
  have h1 : nth (spread B) (m + 16) = nth (spreadTo B (m + 1)) (m + 16) := by
    have := nth_spread_low B (m + 1) (48 - (m + 1)) (m + 16) (by omega) (by omega)
    rw [show m + 1 + (48 - (m + 1)) = 48 by omega] at this
    exact this
  rw [h1, spreadTo, nth_set _ _ _ _ (by rw [length_spreadTo]; omega), if_pos rfl, next, next, h _ (by omega), h _ (by omega), h _ (by omega), h _ (by omega)]
/-- The schedule as the document's text lays it: word behind word. -/
def refW (B : List Int) : Nat → List Int
  | 0 => []
  | k + 1 => refW B k ++ [if k < 16 then word4 (nth B (4 * k)) (nth B (4 * k + 1)) (nth B (4 * k + 2)) (nth B (4 * k + 3)) else next (refW B k) k]
theorem length_refW (B : List Int) : ∀ k, (refW B k).length = k
  | 0 => rfl
  | k + 1 => by simp [refW, length_refW B k]
theorem nth_snoc (l : List Int) (x : Int) (i : Nat) : nth (l ++ [x]) i = if i < l.length then nth l i else if i = l.length then x else 0 := by
  unfold nth
  simp only [List.getD_eq_getElem?_getD, List.getElem?_append]
  split
  · rfl
  · split
    · subst_vars; simp
    · rw [List.getElem?_eq_none (by simp; omega)]; rfl
theorem nth_refW (B : List Int) (hB : IsBytes B) : ∀ k, k ≤ 64 → ∀ i, i < k → nth (refW B k) i = nth (spread B) i
  | 0, _, i, h => by omega
  | k + 1, hk, i, h => by
    have ih := nth_refW B hB k (by omega)
    rw [refW, nth_snoc, length_refW]
    by_cases hi : i < k
    · rw [if_pos hi]; exact ih i hi
    · obtain rfl : i = k := by omega
      rw [if_neg hi, if_pos rfl]
      by_cases h16 : i < 16
      · rw [if_pos h16, word4_eq _ _ _ _ (hB _) (hB _) (hB _) (hB _), spread_word B hB i h16]; rfl
      · obtain ⟨m, rfl⟩ : ∃ m, i = m + 16 := ⟨i - 16, by omega⟩
        rw [if_neg h16, spread_next B m (by omega), next, next, ih _ (by omega), ih _ (by omega), ih _ (by omega), ih _ (by omega)]
theorem refW_eq (B : List Int) (hB : IsBytes B) : refW B 64 = spread B := by
  apply List.ext_getElem
  · rw [length_refW, spread, length_spreadTo]
  · intro i h1 h2
    have h := nth_refW B hB 64 (by omega) i (by rw [length_refW] at h1; omega)
    simpa [nth, h1, h2] using h
end Go.Proofs.Ytpllcnpcplbobaa.Sha
