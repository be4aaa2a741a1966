import Derived.Test.YtpllcnpcplbobaaDoorShaPure
namespace Go.Proofs.YtpllcnpcplbobaaDoor.Sha
open Go.RowKit
def u8s (l : List Int) : List Value := l.map (Value.int .u8)
theorem length_u8s (l : List Int) : (u8s l).length = l.length := by simp [u8s]
/-- The state behind j blocks of 64 bytes. -/
def blocks (S l : List Int) : Nat → List Int
  | 0 => S
  | j + 1 => block (blocks S l j) (l.drop (64 * j))
theorem length_blocks (S l : List Int) : ∀ j, (blocks S l j).length = S.length
  | 0 => rfl
  | j + 1 => by rw [blocks, length_block, length_blocks S l j]
theorem length_block8 (S B : List Int) (h : S.length = 8) : (block S B).length = 8 := by rw [length_block, h]
theorem list8 {S : List Int} (h : S.length = 8) : ∃ a b c d e f g i, S = [a, b, c, d, e, f, g, i] := by
  match S, h with
  | [a, b, c, d, e, f, g, i], _ => exact ⟨a, b, c, d, e, f, g, i, rfl⟩
theorem nth_drop (l : List Int) (k j : Nat) : nth (l.drop k) j = nth l (k + j) := by
  simp [nth, List.getElem?_drop]
/-- A hash: eight words, what fills no block yet, how many bytes. -/
def hashCells (S : List Int) (v : Value) (n : Int) : Array Value := (S.map (Value.int .u32) ++ [v, .int .u64 n]).toArray
theorem hash_open (S : List Int) (v : Value) (n : Int) (h : S.length = 8) : (hashCells S v n)[8]? = some v := by
  obtain ⟨_, _, _, _, _, _, _, _, rfl⟩ := list8 h; rfl
theorem hash_n (S : List Int) (v : Value) (n : Int) (h : S.length = 8) : (hashCells S v n)[9]? = some (.int .u64 n) := by
  obtain ⟨_, _, _, _, _, _, _, _, rfl⟩ := list8 h; rfl
theorem hash_set_open (S : List Int) (v u : Value) (n : Int) (h : S.length = 8) : (hashCells S v n).setIfInBounds 8 u = hashCells S u n := by
  obtain ⟨_, _, _, _, _, _, _, _, rfl⟩ := list8 h; rfl
theorem hash_set_n (S : List Int) (v : Value) (n m : Int) (h : S.length = 8) : (hashCells S v n).setIfInBounds 9 (.int .u64 m) = hashCells S v m := by
  obtain ⟨_, _, _, _, _, _, _, _, rfl⟩ := list8 h; rfl
def bytesI (s : ByteArray) : List Int := s.data.toList.map fun b => (b.toNat : Int)
theorem length_bytesI (s : ByteArray) : (bytesI s).length = s.size := by
  rw [bytesI, List.length_map, Array.length_toList]; rfl
def IsBytes (l : List Int) : Prop := ∀ j, 0 ≤ nth l j ∧ nth l j < 256
theorem isBytes_of {l : List Int} (h : ∀ x ∈ l, 0 ≤ x ∧ x < 256) : IsBytes l := fun j => by
  unfold nth
  rw [List.getD_eq_getElem?_getD]
  cases hj : l[j]? with
  | none => simp
  | some x => simpa using h x (List.mem_of_getElem? hj)
/-- How many zeros stand behind the byte 128. -/
def zs (r : Nat) : Nat := (119 - r % 64) % 64
theorem zs_end (r : Nat) : (r + 1 + zs r) % 64 = 56 := by unfold zs; omega
theorem zs_not (r m : Nat) (h : m < zs r) : (r + 1 + m) % 64 ≠ 56 := by unfold zs at h; omega
theorem zs_lt (r : Nat) : zs r < 64 := by unfold zs; omega
def pad0 (R : List Int) (m : Nat) : List Int := R ++ [128] ++ List.replicate m 0
theorem length_pad0 (R : List Int) (m : Nat) : (pad0 R m).length = R.length + 1 + m := by simp [pad0]; omega
theorem pad0_succ (R : List Int) (m : Nat) : u8s (pad0 R m) ++ [.int .u8 0] = u8s (pad0 R (m + 1)) := by
  simp [pad0, u8s, List.replicate_succ']
/-- The first k of the eight bytes that say how many bits. -/
def lenByte (n k : Nat) : Int := (8 * (n : Int) / 2 ^ (56 - 8 * k)) % 256
def lenTo (n k : Nat) : List Int := (List.range k).map (lenByte n)
theorem length_lenTo (n k : Nat) : (lenTo n k).length = k := by simp [lenTo]
theorem lenTo_succ (n k : Nat) : lenTo n (k + 1) = lenTo n k ++ [lenByte n k] := by simp [lenTo, List.range_succ]
theorem lenByte_range (n k : Nat) : 0 ≤ lenByte n k ∧ lenByte n k < 256 := by unfold lenByte; omega
theorem mem_of_isBytes {l : List Int} (h : IsBytes l) : ∀ x ∈ l, 0 ≤ x ∧ x < 256 := by
  intro x hx
  obtain ⟨i, hi, rfl⟩ := List.getElem_of_mem hx
  have := h i
  simpa [nth, hi] using this
theorem isBytes_pad {R : List Int} (h : IsBytes R) {m n k : Nat} : IsBytes (pad0 R m ++ lenTo n k) := by
  refine isBytes_of fun x hx => ?_
  simp only [pad0, lenTo, List.mem_append, List.mem_singleton, List.mem_replicate, List.mem_map] at hx
  rcases hx with ((hx | rfl) | ⟨_, rfl⟩) | ⟨i, _, rfl⟩
  · exact mem_of_isBytes h x hx
  · omega
  · omega
  · exact lenByte_range n i
def digestByte (W : List Int) (k : Nat) : Int := nth W (k / 4) / 2 ^ (24 - 8 * (k % 4)) % 256
def digestTo (W : List Int) : Nat → List Int
  | 0 => List.replicate 32 0
  | k + 1 => (digestTo W k).set k (digestByte W k)
theorem length_digestTo (W : List Int) : ∀ k, (digestTo W k).length = 32
  | 0 => by simp [digestTo]
  | k + 1 => by simp [digestTo, length_digestTo W k]
def padded (R : List Int) (n : Nat) : List Int := pad0 R (zs R.length) ++ lenTo n 8
/-- The digest's 32 bytes: V the state, R what fills no block yet, n how many bytes came. -/
def final (V R : List Int) (n : Nat) : List Int := digestTo (blocks V (pad0 R (zs R.length) ++ lenTo n 8) ((pad0 R (zs R.length) ++ lenTo n 8).length / 64)) 32
theorem length_final (V R : List Int) (n : Nat) : (final V R n).length = 32 := length_digestTo _ _
def H0 : List Int := [0x6a09e667, 0xbb67ae85, 0x3c6ef372, 0xa54ff53a, 0x510e527f, 0x9b05688c, 0x1f83d9ab, 0x5be0cd19]
/-- SHA-256 of bytes. -/
def sum (L : List Int) : List Int := final (blocks H0 L (L.length / 64)) (L.drop (64 * (L.length / 64))) L.length
theorem length_sum (L : List Int) : (sum L).length = 32 := length_final _ _ _
theorem isBytes_bytesI (s : ByteArray) : IsBytes (bytesI s) := isBytes_of fun x hx => by
  simp only [bytesI, List.mem_map] at hx
  obtain ⟨b, _, rfl⟩ := hx
  have := b.toNat_lt
  omega
theorem isBytes_append {a b : List Int} (ha : IsBytes a) (hb : IsBytes b) : IsBytes (a ++ b) := isBytes_of fun x hx => by
  rcases List.mem_append.1 hx with hx | hx
  · exact mem_of_isBytes ha x hx
  · exact mem_of_isBytes hb x hx
theorem isBytes_drop {a : List Int} (ha : IsBytes a) (k : Nat) : IsBytes (a.drop k) := fun j => by rw [nth_drop]; exact ha _
end Go.Proofs.YtpllcnpcplbobaaDoor.Sha
