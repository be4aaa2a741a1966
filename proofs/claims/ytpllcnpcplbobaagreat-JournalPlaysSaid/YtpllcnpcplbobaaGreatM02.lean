import Derived.WalkKit
import Derived.KernelRfl
import Derived.Laws.Slices
import Derived.Laws.Strings
section
namespace Go.Proofs.YtpllcnpcplbobaaGreat.Sha
/-- A word turned right by n. -/
def rotr (n : Int) (x : Int) : Int := bits .or .u32 (IntKind.u32.wrap (x * 2 ^ (32 - n).toNat)) (x / 2 ^ n.toNat)
def add (a b : Int) : Int := IntKind.u32.wrap (a + b)
def xor (a b : Int) : Int := bits .xor .u32 a b
def and (a b : Int) : Int := bits .and .u32 a b
def not (a : Int) : Int := bits .xor .u32 IntKind.u32.max a
def sig0 (x : Int) : Int := xor (xor (rotr 7 x) (rotr 18 x)) (x / 8)
def sig1 (x : Int) : Int := xor (xor (rotr 17 x) (rotr 19 x)) (x / 1024)
def words (l : List Int) : Array Value := (l.map (Value.int .u32)).toArray
def nth (l : List Int) (i : Nat) : Int := l.getD i 0
/-- A byte goes into its word. -/
def byteIn (l : List Int) (i : Nat) (x : Int) : List Int := l.set (i / 4) (bits .or .u32 (nth l (i / 4) * 256 % 4294967296) x)
def bytesIn (b : List Int) : Nat → List Int
  | 0 => List.replicate 64 0
  | k + 1 => byteIn (bytesIn b k) k (nth b k)
def next (l : List Int) (i : Nat) : Int := (nth l (i - 16) + sig0 (nth l (i - 15)) + nth l (i - 7) + sig1 (nth l (i - 2))) % 4294967296
def spreadTo (b : List Int) : Nat → List Int
  | 0 => bytesIn b 64
  | k + 1 => (spreadTo b k).set (k + 16) (next (spreadTo b k) (k + 16))
def spread (b : List Int) : List Int := spreadTo b 48
def KS : List Int := [0x428a2f98, 0x71374491, 0xb5c0fbcf, 0xe9b5dba5, 0x3956c25b, 0x59f111f1, 0x923f82a4, 0xab1c5ed5,
  0xd807aa98, 0x12835b01, 0x243185be, 0x550c7dc3, 0x72be5d74, 0x80deb1fe, 0x9bdc06a7, 0xc19bf174,
  0xe49b69c1, 0xefbe4786, 0x0fc19dc6, 0x240ca1cc, 0x2de92c6f, 0x4a7484aa, 0x5cb0a9dc, 0x76f988da,
  0x983e5152, 0xa831c66d, 0xb00327c8, 0xbf597fc7, 0xc6e00bf3, 0xd5a79147, 0x06ca6351, 0x14292967,
  0x27b70a85, 0x2e1b2138, 0x4d2c6dfc, 0x53380d13, 0x650a7354, 0x766a0abb, 0x81c2c92e, 0x92722c85,
  0xa2bfe8a1, 0xa81a664b, 0xc24b8b70, 0xc76c51a3, 0xd192e819, 0xd6990624, 0xf40e3585, 0x106aa070,
  0x19a4c116, 0x1e376c08, 0x2748774c, 0x34b0bcb5, 0x391c0cb3, 0x4ed8aa4a, 0x5b9cca4f, 0x682e6ff3,
  0x748f82ee, 0x78a5636f, 0x84c87814, 0x8cc70208, 0x90befffa, 0xa4506ceb, 0xbef9a3f7, 0xc67178f2]

def t1 (W V : List Int) (k : Nat) : Int :=
  nth V 7 + xor (xor (rotr 6 (nth V 4)) (rotr 11 (nth V 4))) (rotr 25 (nth V 4)) + xor (and (nth V 4) (nth V 5)) (and (not (nth V 4)) (nth V 6)) + nth KS k + nth W k
def t2 (V : List Int) : Int :=
  xor (xor (rotr 2 (nth V 0)) (rotr 13 (nth V 0))) (rotr 22 (nth V 0)) + xor (xor (and (nth V 0) (nth V 1)) (and (nth V 0) (nth V 2))) (and (nth V 1) (nth V 2))
def round (W V : List Int) (k : Nat) : List Int :=
  [(t1 W V k + t2 V) % 4294967296, nth V 0, nth V 1, nth V 2, (nth V 3 + t1 W V k) % 4294967296, nth V 4, nth V 5, nth V 6]
def roundsTo (W V : List Int) : Nat → List Int
  | 0 => V
  | k + 1 => round W (roundsTo W V k) k
theorem length_roundsTo (W V : List Int) (h : V.length = 8) : ∀ k, (roundsTo W V k).length = 8
  | 0 => h
  | _ + 1 => rfl
def mixTo (S V : List Int) : Nat → List Int
  | 0 => S
  | k + 1 => (mixTo S V k).set k ((nth (mixTo S V k) k + nth V k) % 4294967296)
theorem length_mixTo (S V : List Int) : ∀ k, (mixTo S V k).length = S.length
  | 0 => rfl
  | k + 1 => by simp [mixTo, length_mixTo S V k]
/-- The eight words behind a block of 64 bytes. -/
def block (S B : List Int) : List Int := mixTo S (roundsTo (spread B) S 64) 8
theorem length_block (S B : List Int) : (block S B).length = S.length := length_mixTo _ _ 8
theorem length_bytesIn (b : List Int) : ∀ k, (bytesIn b k).length = 64
  | 0 => by simp [bytesIn]
  | k + 1 => by simp [bytesIn, byteIn, length_bytesIn b k]
theorem length_spreadTo (b : List Int) : ∀ k, (spreadTo b k).length = 64
  | 0 => length_bytesIn b 64
  | k + 1 => by simp [spreadTo, length_spreadTo b k]
theorem size_words (l : List Int) : (words l).size = l.length := by simp [words]
theorem words_get (l : List Int) (i : Nat) (h : i < l.length) : (words l)[i]? = some (.int .u32 (nth l i)) := by
  simp [words, nth, h]
theorem words_set (l : List Int) (i : Nat) (x : Int) : (words l).setIfInBounds i (.int .u32 x) = words (l.set i x) := by
  simp [words, List.map_set]
theorem words_one (l : List Int) : (words l).all (·.oneCell') = true := by simp [words, Value.oneCell']
theorem set_app (L : List Int) (rest : List Value) (m : Nat) (x : Int) (h : m < L.length) :
    (L.map (Value.int .u32) ++ rest).toArray.setIfInBounds m (.int .u32 x) = ((L.set m x).map (Value.int .u32) ++ rest).toArray := by
  simp [h, List.map_set]
end Go.Proofs.YtpllcnpcplbobaaGreat.Sha
end
section
namespace Go.Proofs.YtpllcnpcplbobaaGreat.Sha
open Go.RowKit
def u8s (l : List Int) : List Value := l.map (Value.int .u8)
theorem length_u8s (l : List Int) : (u8s l).length = l.length := by simp [u8s]
/-- The state behind j blocks of 64 bytes. -/
def blocks (S l : List Int) : Nat → List Int
  | 0 => S
  | j + 1 => block (blocks S l j) (l.drop (64 * j))
theorem length_blocks (S l : List Int) : ∀ j, (blocks S l j).length = S.length
  | 0 => rfl
  | j + 1 => by rw [blocks, length_block, length_blocks S l j]
theorem length_block8 (S B : List Int) (h : S.length = 8) : (block S B).length = 8 := by rw [length_block, h]
theorem list8 {S : List Int} (h : S.length = 8) : ∃ a b c d e f g i, S = [a, b, c, d, e, f, g, i] := by
  match S, h with
  | [a, b, c, d, e, f, g, i], _ => exact ⟨a, b, c, d, e, f, g, i, rfl⟩
theorem nth_drop (l : List Int) (k j : Nat) : nth (l.drop k) j = nth l (k + j) := by
  simp [nth, List.getElem?_drop]
/-- A hash: eight words, what fills no block yet, how many bytes. -/
def hashCells (S : List Int) (v : Value) (n : Int) : Array Value := (S.map (Value.int .u32) ++ [v, .int .u64 n]).toArray
theorem hash_open (S : List Int) (v : Value) (n : Int) (h : S.length = 8) : (hashCells S v n)[8]? = some v := by
  obtain ⟨_, _, _, _, _, _, _, _, rfl⟩ := list8 h; rfl
theorem hash_n (S : List Int) (v : Value) (n : Int) (h : S.length = 8) : (hashCells S v n)[9]? = some (.int .u64 n) := by
  obtain ⟨_, _, _, _, _, _, _, _, rfl⟩ := list8 h; rfl
theorem hash_set_open (S : List Int) (v u : Value) (n : Int) (h : S.length = 8) : (hashCells S v n).setIfInBounds 8 u = hashCells S u n := by
  obtain ⟨_, _, _, _, _, _, _, _, rfl⟩ := list8 h; rfl
theorem hash_set_n (S : List Int) (v : Value) (n m : Int) (h : S.length = 8) : (hashCells S v n).setIfInBounds 9 (.int .u64 m) = hashCells S v m := by
  obtain ⟨_, _, _, _, _, _, _, _, rfl⟩ := list8 h; rfl
def bytesI (s : ByteArray) : List Int := s.data.toList.map fun b => (b.toNat : Int)
theorem length_bytesI (s : ByteArray) : (bytesI s).length = s.size := by
  rw [bytesI, List.length_map, Array.length_toList]; rfl
def IsBytes (l : List Int) : Prop := ∀ j, 0 ≤ nth l j ∧ nth l j < 256
theorem isBytes_of {l : List Int} (h : ∀ x ∈ l, 0 ≤ x ∧ x < 256) : IsBytes l := fun j => by
  unfold nth
  rw [List.getD_eq_getElem?_getD]
  cases hj : l[j]? with
  | none => simp
  | some x => simpa using h x (List.mem_of_getElem? hj)
/-- How many zeros stand behind the byte 128. -/
def zs (r : Nat) : Nat := (119 - r % 64) % 64
theorem zs_end (r : Nat) : (r + 1 + zs r) % 64 = 56 := by unfold zs; omega
theorem zs_not (r m : Nat) (h : m < zs r) : (r + 1 + m) % 64 ≠ 56 := by unfold zs at h; omega
theorem zs_lt (r : Nat) : zs r < 64 := by unfold zs; omega
def pad0 (R : List Int) (m : Nat) : List Int := R ++ [128] ++ List.replicate m 0
theorem length_pad0 (R : List Int) (m : Nat) : (pad0 R m).length = R.length + 1 + m := by simp [pad0]; omega
theorem pad0_succ (R : List Int) (m : Nat) : u8s (pad0 R m) ++ [.int .u8 0] = u8s (pad0 R (m + 1)) := by
  simp [pad0, u8s, List.replicate_succ']
/-- The first k of the eight bytes that say how many bits. -/
def lenByte (n k : Nat) : Int := (8 * (n : Int) / 2 ^ (56 - 8 * k)) % 256
def lenTo (n k : Nat) : List Int := (List.range k).map (lenByte n)
theorem length_lenTo (n k : Nat) : (lenTo n k).length = k := by simp [lenTo]
theorem lenTo_succ (n k : Nat) : lenTo n (k + 1) = lenTo n k ++ [lenByte n k] := by simp [lenTo, List.range_succ]
theorem lenByte_range (n k : Nat) : 0 ≤ lenByte n k ∧ lenByte n k < 256 := by unfold lenByte; omega
theorem mem_of_isBytes {l : List Int} (h : IsBytes l) : ∀ x ∈ l, 0 ≤ x ∧ x < 256 := by
  intro x hx
  obtain ⟨i, hi, rfl⟩ := List.getElem_of_mem hx
  have := h i
  simpa [nth, hi] using this
theorem isBytes_pad {R : List Int} (h : IsBytes R) {m n k : Nat} : IsBytes (pad0 R m ++ lenTo n k) := by
  refine isBytes_of fun x hx => ?_
  simp only [pad0, lenTo, List.mem_append, List.mem_singleton, List.mem_replicate, List.mem_map] at hx
  rcases hx with ((hx | rfl) | ⟨_, rfl⟩) | ⟨i, _, rfl⟩
  · exact mem_of_isBytes h x hx
  · omega
  · omega
  · exact lenByte_range n i
def digestByte (W : List Int) (k : Nat) : Int := nth W (k / 4) / 2 ^ (24 - 8 * (k % 4)) % 256
def digestTo (W : List Int) : Nat → List Int
  | 0 => List.replicate 32 0
  | k + 1 => (digestTo W k).set k (digestByte W k)
theorem length_digestTo (W : List Int) : ∀ k, (digestTo W k).length = 32
  | 0 => by simp [digestTo]
  | k + 1 => by simp [digestTo, length_digestTo W k]
def padded (R : List Int) (n : Nat) : List Int := pad0 R (zs R.length) ++ lenTo n 8
/-- The digest's 32 bytes: V the state, R what fills no block yet, n how many bytes came. -/
def final (V R : List Int) (n : Nat) : List Int := digestTo (blocks V (pad0 R (zs R.length) ++ lenTo n 8) ((pad0 R (zs R.length) ++ lenTo n 8).length / 64)) 32
theorem length_final (V R : List Int) (n : Nat) : (final V R n).length = 32 := length_digestTo _ _
def H0 : List Int := [0x6a09e667, 0xbb67ae85, 0x3c6ef372, 0xa54ff53a, 0x510e527f, 0x9b05688c, 0x1f83d9ab, 0x5be0cd19]
/-- SHA-256 of bytes. -/
def sum (L : List Int) : List Int := final (blocks H0 L (L.length / 64)) (L.drop (64 * (L.length / 64))) L.length
theorem length_sum (L : List Int) : (sum L).length = 32 := length_final _ _ _
theorem isBytes_bytesI (s : ByteArray) : IsBytes (bytesI s) := isBytes_of fun x hx => by
  simp only [bytesI, List.mem_map] at hx
  obtain ⟨b, _, rfl⟩ := hx
  have := b.toNat_lt
  omega
theorem isBytes_append {a b : List Int} (ha : IsBytes a) (hb : IsBytes b) : IsBytes (a ++ b) := isBytes_of fun x hx => by
  rcases List.mem_append.1 hx with hx | hx
  · exact mem_of_isBytes ha x hx
  · exact mem_of_isBytes hb x hx
theorem isBytes_drop {a : List Int} (ha : IsBytes a) (k : Nat) : IsBytes (a.drop k) := fun j => by rw [nth_drop]; exact ha _
end Go.Proofs.YtpllcnpcplbobaaGreat.Sha
end
section
namespace Go.Proofs.YtpllcnpcplbobaaGreat
open Go.RowKit
/-! A part of a text, cut out by bounds that fit. -/
section
variable {P : Program}
theorem run_cut (t : TypeId) (ht : P.underlying t = some .string) (s : ByteArray) (a b : Nat) (hab : a ≤ b) (hb : b ≤ s.size) (A B : Int) (hA : A = (a : Int)) (hB : B = (b : Int)) (w : World) :
    (Instr.slice t (.string s) (some (.int .i64 A)) (some (.int .i64 B)) none).run P w = .ok (.string (s.extract a b)) w := by
  subst hA hB
  have h3 : (b : Int) ≤ (s.size : Int) := by omega
  simp [Instr.slice, Instr.sliceBounds, run_underlying ht, run_sliceBound, h3, Nat.not_lt.2 hab, go_sem]
theorem run_cut_high (t : TypeId) (ht : P.underlying t = some .string) (s : ByteArray) (b : Nat) (hb : b ≤ s.size) (B : Int) (hB : B = (b : Int)) (w : World) :
    (Instr.slice t (.string s) none (some (.int .i64 B)) none).run P w = .ok (.string (s.extract 0 b)) w := by
  subst hB
  have h3 : (b : Int) ≤ (s.size : Int) := by omega
  simp [Instr.slice, Instr.sliceBounds, run_underlying ht, run_sliceBound, h3, go_sem]
theorem run_cut_low (t : TypeId) (ht : P.underlying t = some .string) (s : ByteArray) (a : Nat) (ha : a ≤ s.size) (A : Int) (hA : A = (a : Int)) (w : World) :
    (Instr.slice t (.string s) (some (.int .i64 A)) none none).run P w = .ok (.string (s.extract a s.size)) w := by
  subst hA
  have h3 : (a : Int) ≤ (s.size : Int) := by omega
  simp [Instr.slice, Instr.sliceBounds, run_underlying ht, run_sliceBound, h3, go_sem]
end
end Go.Proofs.YtpllcnpcplbobaaGreat
end
section
namespace Go.Proofs.YtpllcnpcplbobaaGreat.Sha
open Go.RowKit
/-! The same digest as the document's text reckons it. -/
theorem bits_or_def (k : IntKind) (a b : Int) : bits .or k a b = k.wrap ((BitVec.ofInt k.bits a ||| BitVec.ofInt k.bits b).toNat : Int) := rfl
theorem bits_or_comm (k : IntKind) (a b : Int) : bits .or k a b = bits .or k b a := by
  rw [bits_or_def, bits_or_def, BitVec.or_comm]
theorem or32 (x y : Nat) (hx : x < 4294967296) (hy : y < 4294967296) (hor : x ||| y < 4294967296) : bits .or .u32 (x : Int) (y : Int) = ((x ||| y : Nat) : Int) := by
  have e : bits .or .u32 (x : Int) (y : Int) = IntKind.u32.wrap ((BitVec.ofInt 32 (x : Int) ||| BitVec.ofInt 32 (y : Int)).toNat : Int) := rfl
  have f : ∀ n : Int, IntKind.u32.wrap n = n % 4294967296 := fun n => rfl
  rw [e, f, BitVec.ofInt_natCast, BitVec.ofInt_natCast, BitVec.toNat_or, BitVec.toNat_ofNat, BitVec.toNat_ofNat,
    Nat.mod_eq_of_lt (by simpa using hx), Nat.mod_eq_of_lt (by simpa using hy)]
  exact Int.emod_eq_of_lt (by omega) (by omega)
theorem or_add (k : Nat) (a b : Int) (ha : 0 ≤ a) (hb : 0 ≤ b) (hbk : b < ((2 ^ k : Nat) : Int)) (h : a * ((2 ^ k : Nat) : Int) + b < 4294967296) : bits .or .u32 (a * ((2 ^ k : Nat) : Int)) b = a * ((2 ^ k : Nat) : Int) + b := by
  obtain ⟨x, rfl⟩ := Int.eq_ofNat_of_zero_le ha
  obtain ⟨y, rfl⟩ := Int.eq_ofNat_of_zero_le hb
  have hy : y < 2 ^ k := by exact_mod_cast hbk
  have e := Nat.two_pow_add_eq_or_of_lt hy x
  rw [Nat.mul_comm] at e
  obtain ⟨q, hq⟩ : ∃ q, q = x * 2 ^ k := ⟨_, rfl⟩
  have c1 : ((x : Int) * ((2 ^ k : Nat) : Int)) = (q : Int) := by rw [hq, Int.natCast_mul]
  rw [c1] at h
  rw [← hq] at e
  rw [c1, or32 _ _ (by omega) (by omega) (by omega), ← e]
  omega
def w4 (a b c d : Int) : Int := ((a * 256 + b) * 256 + c) * 256 + d
/-- Four bytes as a word. -/
def word4 (a b c d : Int) : Int := bits .or .u32 (bits .or .u32 (bits .or .u32 (a * 16777216) (b * 65536)) (c * 256)) d
theorem word4_eq (a b c d : Int) (ha : 0 ≤ a ∧ a < 256) (hb : 0 ≤ b ∧ b < 256) (hc : 0 ≤ c ∧ c < 256) (hd : 0 ≤ d ∧ d < 256) : word4 a b c d = w4 a b c d := by
  have e1 : bits .or .u32 (a * 16777216) (b * 65536) = a * 16777216 + b * 65536 := or_add 24 a (b * 65536) ha.1 (by omega) (by show b * 65536 < 16777216; omega) (by show a * 16777216 + b * 65536 < _; omega)
  have e2 : bits .or .u32 ((a * 256 + b) * 65536) (c * 256) = (a * 256 + b) * 65536 + c * 256 := or_add 16 (a * 256 + b) (c * 256) (by omega) (by omega) (by show c * 256 < 65536; omega) (by show (a * 256 + b) * 65536 + c * 256 < _; omega)
  have e3 : bits .or .u32 (((a * 256 + b) * 256 + c) * 256) d = ((a * 256 + b) * 256 + c) * 256 + d := or_add 8 ((a * 256 + b) * 256 + c) d (by omega) (by omega) (by show d < 256; omega) (by show ((a * 256 + b) * 256 + c) * 256 + d < _; omega)
  unfold word4 w4
  rw [e1, show a * 16777216 + b * 65536 = (a * 256 + b) * 65536 by omega, e2, show (a * 256 + b) * 65536 + c * 256 = ((a * 256 + b) * 256 + c) * 256 by omega, e3]
theorem nth_set (l : List Int) (i j : Nat) (x : Int) (h : i < l.length) : nth (l.set i x) j = if i = j then x else nth l j := by
  unfold nth
  simp only [List.getD_eq_getElem?_getD, List.getElem?_set]
  split
  · subst_vars; simp
  · rfl
theorem byteIn_step (l : List Int) (hl : l.length = 64) (k : Nat) (hk : k < 64) (x y : Int) (hy : nth l (k / 4) = y) (h0 : 0 ≤ y) (h1 : y < 16777216) (hx : 0 ≤ x ∧ x < 256) (j : Nat) :
    nth (byteIn l k x) j = if k / 4 = j then y * 256 + x else nth l j := by
  have e : bits .or .u32 (y * 256) x = y * 256 + x := or_add 8 y x h0 hx.1 hx.2 (by show y * 256 + x < _; omega)
  rw [byteIn, nth_set _ _ _ _ (by omega), hy, Int.emod_eq_of_lt (by omega) (by omega), e]
def wordAt (B : List Int) (i : Nat) : Int := w4 (nth B (4 * i)) (nth B (4 * i + 1)) (nth B (4 * i + 2)) (nth B (4 * i + 3))
theorem nth_bytesIn (B : List Int) (hB : IsBytes B) : ∀ j, j ≤ 16 → ∀ i, nth (bytesIn B (4 * j)) i = if i < j then wordAt B i else 0
  | 0, _, i => by
    simp only [bytesIn, nth, List.getD_eq_getElem?_getD, Nat.not_lt_zero, if_false]
    cases h : (List.replicate 64 (0 : Int))[i]? with
    | none => rfl
    | some v => simpa using (List.eq_of_mem_replicate (List.mem_of_getElem? h))
  | j + 1, hj, i => by
    have ih := nth_bytesIn B hB j (by omega)
    have b0 := hB (4 * j)
    have b1 := hB (4 * j + 1)
    have b2 := hB (4 * j + 2)
    have b3 := hB (4 * j + 3)
    have s0 := byteIn_step (bytesIn B (4 * j)) (length_bytesIn _ _) (4 * j) (by omega) (nth B (4 * j)) 0 (by rw [ih, if_neg (by omega)]) (by omega) (by omega) b0
    have e0 : nth (bytesIn B (4 * j + 1)) j = 0 * 256 + nth B (4 * j) := (s0 j).trans (if_pos (by omega))
    have s1 := byteIn_step (bytesIn B (4 * j + 1)) (length_bytesIn _ _) (4 * j + 1) (by omega) (nth B (4 * j + 1)) (nth B (4 * j)) (by rw [show (4 * j + 1) / 4 = j by omega]; omega) (by omega) (by omega) b1
    have e1 : nth (bytesIn B (4 * j + 2)) j = nth B (4 * j) * 256 + nth B (4 * j + 1) := (s1 j).trans (if_pos (by omega))
    have s2 := byteIn_step (bytesIn B (4 * j + 2)) (length_bytesIn _ _) (4 * j + 2) (by omega) (nth B (4 * j + 2)) (nth B (4 * j) * 256 + nth B (4 * j + 1)) (by rw [show (4 * j + 2) / 4 = j by omega]; omega) (by omega) (by omega) b2
    have e2 : nth (bytesIn B (4 * j + 3)) j = (nth B (4 * j) * 256 + nth B (4 * j + 1)) * 256 + nth B (4 * j + 2) := (s2 j).trans (if_pos (by omega))
    have s3 := byteIn_step (bytesIn B (4 * j + 3)) (length_bytesIn _ _) (4 * j + 3) (by omega) (nth B (4 * j + 3)) ((nth B (4 * j) * 256 + nth B (4 * j + 1)) * 256 + nth B (4 * j + 2)) (by rw [show (4 * j + 3) / 4 = j by omega]; omega) (by omega) (by omega) b3
    have e : nth (bytesIn B (4 * (j + 1))) i = _ := s3 i
    rw [e]
    by_cases hi : i = j
    · subst hi
      rw [if_pos (by omega), if_pos (by omega)]
      rfl
    · rw [if_neg (by omega)]
      have f2 : nth (bytesIn B (4 * j + 3)) i = _ := s2 i
      have f1 : nth (bytesIn B (4 * j + 2)) i = _ := s1 i
      have f0 : nth (bytesIn B (4 * j + 1)) i = _ := s0 i
      rw [f2, if_neg (by omega), f1, if_neg (by omega), f0, if_neg (by omega), ih]
      by_cases h : i < j
      · rw [if_pos h, if_pos (by omega)]
      · rw [if_neg h, if_neg (by omega)]
theorem nth_spread_low (B : List Int) (m : Nat) : ∀ d i, i < 16 + m → m + d ≤ 48 → nth (spreadTo B (m + d)) i = nth (spreadTo B m) i
  | 0, i, _, _ => rfl
  | d + 1, i, h, hd => by
    have ih := nth_spread_low B m d i h (by omega)
    rw [← Nat.add_assoc, spreadTo, nth_set _ _ _ _ (by rw [length_spreadTo]; omega), if_neg (by omega), ih]
theorem spread_word (B : List Int) (hB : IsBytes B) (i : Nat) (hi : i < 16) : nth (spread B) i = wordAt B i := by
  have h := nth_spread_low B 0 48 i (by omega) (by omega)
  rw [Nat.zero_add] at h
  rw [spread, h, spreadTo]
  have := nth_bytesIn B hB 16 (by omega) i
  rw [this, if_pos hi]
theorem spread_next (B : List Int) (m : Nat) (hm : m < 48) : nth (spread B) (m + 16) = next (spread B) (m + 16) := by
  have h : ∀ i, i < 16 + m → nth (spread B) i = nth (spreadTo B m) i := fun i hi => by
    have := nth_spread_low B m (48 - m) i hi (by omega)
    rw [show m + (48 - m) = 48 by omega] at this
    exact this
  have h1 : nth (spread B) (m + 16) = nth (spreadTo B (m + 1)) (m + 16) := by
    have := nth_spread_low B (m + 1) (48 - (m + 1)) (m + 16) (by omega) (by omega)
    rw [show m + 1 + (48 - (m + 1)) = 48 by omega] at this
    exact this
  rw [h1, spreadTo, nth_set _ _ _ _ (by rw [length_spreadTo]; omega), if_pos rfl, next, next, h _ (by omega), h _ (by omega), h _ (by omega), h _ (by omega)]
/-- The schedule as the document's text lays it: word behind word. -/
def refW (B : List Int) : Nat → List Int
  | 0 => []
  | k + 1 => refW B k ++ [if k < 16 then word4 (nth B (4 * k)) (nth B (4 * k + 1)) (nth B (4 * k + 2)) (nth B (4 * k + 3)) else next (refW B k) k]
theorem length_refW (B : List Int) : ∀ k, (refW B k).length = k
  | 0 => rfl
  | k + 1 => by simp [refW, length_refW B k]
theorem nth_snoc (l : List Int) (x : Int) (i : Nat) : nth (l ++ [x]) i = if i < l.length then nth l i else if i = l.length then x else 0 := by
  unfold nth
  simp only [List.getD_eq_getElem?_getD, List.getElem?_append]
  split
  · rfl
  · split
    · subst_vars; simp
    · rw [List.getElem?_eq_none (by simp; omega)]; rfl
theorem nth_refW (B : List Int) (hB : IsBytes B) : ∀ k, k ≤ 64 → ∀ i, i < k → nth (refW B k) i = nth (spread B) i
  | 0, _, i, h => by omega
  | k + 1, hk, i, h => by
    have ih := nth_refW B hB k (by omega)
    rw [refW, nth_snoc, length_refW]
    by_cases hi : i < k
    · rw [if_pos hi]; exact ih i hi
    · obtain rfl : i = k := by omega
      rw [if_neg hi, if_pos rfl]
      by_cases h16 : i < 16
      · rw [if_pos h16, word4_eq _ _ _ _ (hB _) (hB _) (hB _) (hB _), spread_word B hB i h16]; rfl
      · obtain ⟨m, rfl⟩ : ∃ m, i = m + 16 := ⟨i - 16, by omega⟩
        rw [if_neg h16, spread_next B m (by omega), next, next, ih _ (by omega), ih _ (by omega), ih _ (by omega), ih _ (by omega)]
theorem refW_eq (B : List Int) (hB : IsBytes B) : refW B 64 = spread B := by
  apply List.ext_getElem
  · rw [length_refW, spread, length_spreadTo]
  · intro i h1 h2
    have h := nth_refW B hB 64 (by omega) i (by rw [length_refW] at h1; omega)
    simpa [nth, h1, h2] using h
end Go.Proofs.YtpllcnpcplbobaaGreat.Sha
end
section
namespace Go.Proofs.YtpllcnpcplbobaaGreat.Sha
open Go.RowKit
theorem bytesIn_congr {a b : List Int} (h : ∀ j, j < 64 → nth a j = nth b j) : ∀ k, k ≤ 64 → bytesIn a k = bytesIn b k
  | 0, _ => rfl
  | k + 1, hk => by rw [bytesIn, bytesIn, bytesIn_congr h k (by omega), h k (by omega)]
theorem spreadTo_congr {a b : List Int} (h : ∀ j, j < 64 → nth a j = nth b j) : ∀ k, spreadTo a k = spreadTo b k
  | 0 => bytesIn_congr h 64 (Nat.le_refl _)
  | k + 1 => by rw [spreadTo, spreadTo, spreadTo_congr h k]
theorem block_congr {a b : List Int} (S : List Int) (h : ∀ j, j < 64 → nth a j = nth b j) : block S a = block S b := by
  rw [block, block, spread, spread, spreadTo_congr h]
theorem blocks_congr {a b : List Int} (S : List Int) : ∀ q, (∀ j, j < 64 * q → nth a j = nth b j) → blocks S a q = blocks S b q
  | 0, _ => rfl
  | q + 1, h => by
    rw [blocks, blocks, blocks_congr S q fun j hj => h j (by omega)]
    exact block_congr _ fun j hj => by rw [nth_drop, nth_drop]; exact h _ (by omega)
theorem blocks_add (S l : List Int) (q : Nat) : ∀ m, blocks S l (q + m) = blocks (blocks S l q) (l.drop (64 * q)) m
  | 0 => rfl
  | m + 1 => by
    rw [← Nat.add_assoc, blocks, blocks, blocks_add S l q m, List.drop_drop]
    congr 2
    omega
theorem padded_split (L : List Int) (n : Nat) : padded L n = L.take (64 * (L.length / 64)) ++ padded (L.drop (64 * (L.length / 64))) n := by
  have hz : zs L.length = zs (L.drop (64 * (L.length / 64))).length := by
    rw [List.length_drop]; unfold zs; omega
  unfold padded pad0
  rw [← hz]
  simp only [← List.append_assoc, List.take_append_drop]
theorem nth_append_left (a b : List Int) (j : Nat) (h : j < a.length) : nth (a ++ b) j = nth a j := by
  simp [nth, List.getElem?_append_left h]
theorem length_padded (R : List Int) (n : Nat) : (padded R n).length = R.length + 1 + zs R.length + 8 := by
  simp [padded, length_pad0, length_lenTo]
theorem sum_eq (L : List Int) : sum L = digestTo (blocks H0 (padded L L.length) ((padded L L.length).length / 64)) 32 := by
  obtain ⟨q, hq⟩ : ∃ q, q = L.length / 64 := ⟨_, rfl⟩
  have hs := padded_split L L.length
  rw [← hq] at hs
  have ht : (L.take (64 * q)).length = 64 * q := by rw [List.length_take]; omega
  have hl : (padded L L.length).length / 64 = q + (padded (L.drop (64 * q)) L.length).length / 64 := by
    rw [hs, List.length_append, ht]; omega
  have hd : (padded L L.length).drop (64 * q) = padded (L.drop (64 * q)) L.length := by
    rw [hs, List.drop_left' ht]
  have hb : blocks H0 (padded L L.length) q = blocks H0 L q := blocks_congr _ q fun j hj => by
    unfold padded pad0
    rw [List.append_assoc, List.append_assoc, nth_append_left _ _ _ (by omega)]
  rw [hl, blocks_add, hd, hb, sum, final, ← hq]
  rfl
end Go.Proofs.YtpllcnpcplbobaaGreat.Sha
end
