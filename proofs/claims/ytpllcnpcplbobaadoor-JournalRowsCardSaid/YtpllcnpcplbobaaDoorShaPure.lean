import Derived.WalkKit
import Derived.KernelRfl
namespace Go.Proofs.YtpllcnpcplbobaaDoor.Sha
/-- A word turned right by n. -/
def rotr (n : Int) (x : Int) : Int := bits .or .u32 (IntKind.u32.wrap (x * 2 ^ (32 - n).toNat)) (x / 2 ^ n.toNat)
def add (a b : Int) : Int := IntKind.u32.wrap (a + b)
def xor (a b : Int) : Int := bits .xor .u32 a b
def and (a b : Int) : Int := bits .and .u32 a b
def not (a : Int) : Int := bits .xor .u32 IntKind.u32.max a
def sig0 (x : Int) : Int := xor (xor (rotr 7 x) (rotr 18 x)) (x / 8)
def sig1 (x : Int) : Int := xor (xor (rotr 17 x) (rotr 19 x)) (x / 1024)
def words (l : List Int) : Array Value := (l.map (Value.int .u32)).toArray
def nth (l : List Int) (i : Nat) : Int := l.getD i 0
/-- A byte goes into its word. -/
def byteIn (l : List Int) (i : Nat) (x : Int) : List Int := l.set (i / 4) (bits .or .u32 (nth l (i / 4) * 256 % 4294967296) x)
def bytesIn (b : List Int) : Nat → List Int
  | 0 => List.replicate 64 0
  | k + 1 => byteIn (bytesIn b k) k (nth b k)
def next (l : List Int) (i : Nat) : Int := (nth l (i - 16) + sig0 (nth l (i - 15)) + nth l (i - 7) + sig1 (nth l (i - 2))) % 4294967296
def spreadTo (b : List Int) : Nat → List Int
  | 0 => bytesIn b 64
  | k + 1 => (spreadTo b k).set (k + 16) (next (spreadTo b k) (k + 16))
def spread (b : List Int) : List Int := spreadTo b 48
def KS : List Int := [0x428a2f98, 0x71374491, 0xb5c0fbcf, 0xe9b5dba5, 0x3956c25b, 0x59f111f1, 0x923f82a4, 0xab1c5ed5,
  0xd807aa98, 0x12835b01, 0x243185be, 0x550c7dc3, 0x72be5d74, 0x80deb1fe, 0x9bdc06a7, 0xc19bf174,
  0xe49b69c1, 0xefbe4786, 0x0fc19dc6, 0x240ca1cc, 0x2de92c6f, 0x4a7484aa, 0x5cb0a9dc, 0x76f988da,
  0x983e5152, 0xa831c66d, 0xb00327c8, 0xbf597fc7, 0xc6e00bf3, 0xd5a79147, 0x06ca6351, 0x14292967,
  0x27b70a85, 0x2e1b2138, 0x4d2c6dfc, 0x53380d13, 0x650a7354, 0x766a0abb, 0x81c2c92e, 0x92722c85,
  0xa2bfe8a1, 0xa81a664b, 0xc24b8b70, 0xc76c51a3, 0xd192e819, 0xd6990624, 0xf40e3585, 0x106aa070,
  0x19a4c116, 0x1e376c08, 0x2748774c, 0x34b0bcb5, 0x391c0cb3, 0x4ed8aa4a, 0x5b9cca4f, 0x682e6ff3,
  0x748f82ee, 0x78a5636f, 0x84c87814, 0x8cc70208, 0x90befffa, 0xa4506ceb, 0xbef9a3f7, 0xc67178f2]

def t1 (W V : List Int) (k : Nat) : Int :=
  nth V 7 + xor (xor (rotr 6 (nth V 4)) (rotr 11 (nth V 4))) (rotr 25 (nth V 4)) + xor (and (nth V 4) (nth V 5)) (and (not (nth V 4)) (nth V 6)) + nth KS k + nth W k
def t2 (V : List Int) : Int :=
  xor (xor (rotr 2 (nth V 0)) (rotr 13 (nth V 0))) (rotr 22 (nth V 0)) + xor (xor (and (nth V 0) (nth V 1)) (and (nth V 0) (nth V 2))) (and (nth V 1) (nth V 2))
def round (W V : List Int) (k : Nat) : List Int :=
  [(t1 W V k + t2 V) % 4294967296, nth V 0, nth V 1, nth V 2, (nth V 3 + t1 W V k) % 4294967296, nth V 4, nth V 5, nth V 6]
def roundsTo (W V : List Int) : Nat → List Int
  | 0 => V
  | k + 1 => round W (roundsTo W V k) k
theorem length_roundsTo (W V : List Int) (h : V.length = 8) : ∀ k, (roundsTo W V k).length = 8
  | 0 => h
  | _ + 1 => rfl
def mixTo (S V : List Int) : Nat → List Int
  | 0 => S
  | k + 1 => (mixTo S V k).set k ((nth (mixTo S V k) k + nth V k) % 4294967296)
theorem length_mixTo (S V : List Int) : ∀ k, (mixTo S V k).length = S.length
  | 0 => rfl
  | k + 1 => by simp [mixTo, length_mixTo S V k]
/-- The eight words behind a block of 64 bytes. -/
def block (S B : List Int) : List Int := mixTo S (roundsTo (spread B) S 64) 8
theorem length_block (S B : List Int) : (block S B).length = S.length := length_mixTo _ _ 8
theorem length_bytesIn (b : List Int) : ∀ k, (bytesIn b k).length = 64
  | 0 => by simp [bytesIn]
  | k + 1 => by simp [bytesIn, byteIn, length_bytesIn b k]
theorem length_spreadTo (b : List Int) : ∀ k, (spreadTo b k).length = 64
  | 0 => length_bytesIn b 64
  | k + 1 => by simp [spreadTo, length_spreadTo b k]
theorem size_words (l : List Int) : (words l).size = l.length := by simp [words]
theorem words_get (l : List Int) (i : Nat) (h : i < l.length) : (words l)[i]? = some (.int .u32 (nth l i)) := by
  simp [words, nth, h]
theorem words_set (l : List Int) (i : Nat) (x : Int) : (words l).setIfInBounds i (.int .u32 x) = words (l.set i x) := by
  simp [words, List.map_set]
theorem words_one (l : List Int) : (words l).all (·.oneCell') = true := by simp [words, Value.oneCell']
theorem set_app (L : List Int) (rest : List Value) (m : Nat) (x : Int) (h : m < L.length) :
    (L.map (Value.int .u32) ++ rest).toArray.setIfInBounds m (.int .u32 x) = ((L.set m x).map (Value.int .u32) ++ rest).toArray := by
  simp [h, List.map_set]
end Go.Proofs.YtpllcnpcplbobaaDoor.Sha
