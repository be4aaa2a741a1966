import Derived.Test.YtpllcnpcplbobaaDoorJour2
namespace Go.Proofs.YtpllcnpcplbobaaDoor
open Go.RowKit
/-! The records that bytes begin with, in plain terms. -/
def bat (s : ByteArray) (i : Nat) : Nat := if h : i < s.size then s[i].toNat else 0
theorem bat_lt (s : ByteArray) (i : Nat) : bat s i < 256 := by
  unfold bat
  split
  · exact UInt8.toNat_lt _
  · omega
theorem bat_eq (s : ByteArray) (i : Nat) (h : i < s.size) : s[i].toNat = bat s i := by simp [bat, h]
def numAt (s : ByteArray) (p : Nat) : Nat := ((bat s p * 256 + bat s (p + 1)) * 256 + bat s (p + 2)) * 256 + bat s (p + 3)
/-- The record whose frame stands at a place, if one does. -/
def stepAt (s : ByteArray) (p : Nat) : Option ByteArray :=
  if p + 12 ≤ s.size ∧ numAt s p ≤ 1048576 ∧ p + 12 + numAt s p ≤ s.size ∧ strOfNums (headL (s.extract (p + 12) (p + 12 + numAt s p))) = s.extract p (p + 12) then some (s.extract (p + 12) (p + 12 + numAt s p)) else none
theorem stepAt_some {s : ByteArray} {p : Nat} {r : ByteArray} (h : stepAt s p = some r) : p + 12 + r.size ≤ s.size := by
  unfold stepAt at h
  split at h
  · rename_i hc
    have := Option.some.inj h
    subst this
    rw [ByteArray.size_extract]
    omega
  · cases h
/-- The records from a place on, and the place behind them. -/
def scanF : Nat → ByteArray → Nat → List ByteArray × Nat
  | 0, _, p => ([], p)
  | f + 1, s, p =>
    match stepAt s p with
    | none => ([], p)
    | some r => (r :: (scanF f s (p + 12 + r.size)).1, (scanF f s (p + 12 + r.size)).2)
def scan (s : ByteArray) : List ByteArray × Nat := scanF (s.size + 1) s 0
theorem scanF_none {s : ByteArray} {p : Nat} (h : stepAt s p = none) : ∀ f, scanF f s p = ([], p)
  | 0 => rfl
  | f + 1 => by rw [scanF, h]
theorem scanF_some {s : ByteArray} {p : Nat} {r : ByteArray} (h : stepAt s p = some r) (f : Nat) : scanF (f + 1) s p = (r :: (scanF f s (p + 12 + r.size)).1, (scanF f s (p + 12 + r.size)).2) := by
  rw [scanF, h]
theorem extract_extract (s : ByteArray) (a b c d : Nat) : (s.extract a b).extract c d = s.extract (a + c) (min (a + d) b) := by
  apply ByteArray.ext
  simp [ByteArray.data_extract, Array.extract_extract]
theorem bat_extract (s : ByteArray) (p i : Nat) (h : p + i < s.size) : bat (s.extract p s.size) i = bat s (p + i) := by
  have h1 : i < (s.extract p s.size).size := by rw [ByteArray.size_extract]; omega
  unfold bat
  rw [dif_pos h1, dif_pos h]
  have e : (s.extract p s.size)[i] = s[p + i] := by
    show (s.extract p s.size).data[i] = s.data[p + i]
    simp only [ByteArray.data_extract, Array.getElem_extract]
  rw [e]
theorem stepAt_extract (s : ByteArray) (p : Nat) (hp : p ≤ s.size) : stepAt (s.extract p s.size) 0 = stepAt s p := by
  have hz : (s.extract p s.size).size = s.size - p := by rw [ByteArray.size_extract]; omega
  by_cases h12 : p + 12 ≤ s.size
  · have hn : numAt (s.extract p s.size) 0 = numAt s p := by
      unfold numAt
      rw [bat_extract _ _ _ (by omega), bat_extract _ _ _ (by omega), bat_extract _ _ _ (by omega), bat_extract _ _ _ (by omega)]
      rfl
    unfold stepAt
    rw [hn, hz, extract_extract, extract_extract]
    by_cases h2 : p + 12 + numAt s p ≤ s.size
    · rw [show p + (0 + 12) = p + 12 by omega, show min (p + (0 + 12 + numAt s p)) s.size = p + 12 + numAt s p by omega, show p + 0 = p by omega, show min (p + 12) s.size = p + 12 by omega]
      congr 1
      apply propext
      constructor <;> (rintro ⟨a, b, c, d⟩; exact ⟨by omega, b, by omega, d⟩)
    · rw [if_neg (by omega), if_neg (by omega)]
  · unfold stepAt
    rw [if_neg (by rw [hz]; omega), if_neg (by omega)]
theorem or32n (x y : Nat) (hor : x ||| y < 9223372036854775808) (hx : x < 9223372036854775808) (hy : y < 9223372036854775808) : bits .or .i64 (x : Int) (y : Int) = ((x ||| y : Nat) : Int) := by
  have e : bits .or .i64 (x : Int) (y : Int) = IntKind.i64.wrap ((BitVec.ofInt 64 (x : Int) ||| BitVec.ofInt 64 (y : Int)).toNat : Int) := rfl
  rw [e, BitVec.ofInt_natCast, BitVec.ofInt_natCast, BitVec.toNat_or, BitVec.toNat_ofNat, BitVec.toNat_ofNat,
    Nat.mod_eq_of_lt (by simp only [Nat.reducePow]; omega), Nat.mod_eq_of_lt (by simp only [Nat.reducePow]; omega), IntKind.wrap_i64]
  omega
theorem or_addn (k : Nat) (x y p : Nat) (hp : p = 2 ^ k) (hy : y < p) (h : x * p + y < 9223372036854775808) : bits .or .i64 ((x * p : Nat) : Int) (y : Int) = ((x * p + y : Nat) : Int) := by
  subst hp
  have e := Nat.two_pow_add_eq_or_of_lt hy x
  rw [Nat.mul_comm] at e
  rw [or32n _ _ (by omega) (by omega) (by omega), ← e]
theorem numAt_or (a b c d : Nat) (ha : a < 256) (hb : b < 256) (hc : c < 256) (hd : d < 256) :
    bits .or .i64 (bits .or .i64 (bits .or .i64 (wrap64 (wrap64 (a : Int) * 16777216)) (wrap64 (wrap64 (b : Int) * 65536))) (wrap64 (wrap64 (c : Int) * 256))) (wrap64 (d : Int)) = ((((a * 256 + b) * 256 + c) * 256 + d : Nat) : Int) := by
  have w : ∀ n : Int, 0 ≤ n → n < 9223372036854775808 → wrap64 n = n := fun n h1 h2 => by unfold wrap64; omega
  rw [w (a : Int) (by omega) (by omega), w (b : Int) (by omega) (by omega), w (c : Int) (by omega) (by omega), w (d : Int) (by omega) (by omega), w ((a : Int) * 16777216) (by omega) (by omega), w ((b : Int) * 65536) (by omega) (by omega), w ((c : Int) * 256) (by omega) (by omega)]
  have e1 : ((a : Int) * 16777216) = ((a * 16777216 : Nat) : Int) := by omega
  have e2 : ((b : Int) * 65536) = ((b * 65536 : Nat) : Int) := by omega
  have e3 : ((c : Int) * 256) = ((c * 256 : Nat) : Int) := by omega
  rw [e1, e2, e3, or_addn 24 a (b * 65536) 16777216 rfl (by omega) (by omega), show a * 16777216 + b * 65536 = (a * 256 + b) * 65536 by omega, or_addn 16 (a * 256 + b) (c * 256) 65536 rfl (by omega) (by omega),
    show (a * 256 + b) * 65536 + c * 256 = ((a * 256 + b) * 256 + c) * 256 by omega, or_addn 8 ((a * 256 + b) * 256 + c) d 256 rfl (by omega) (by omega)]
end Go.Proofs.YtpllcnpcplbobaaDoor
