import Derived.Test.YtpllcnpcplbobaaShaPure3
namespace Go.Proofs.Ytpllcnpcplbobaa.Sha
open Go.RowKit
theorem bytesIn_congr {a b : List Int} (h : ∀ j, j < 64 → nth a j = nth b j) : ∀ k, k ≤ 64 → bytesIn a k = bytesIn b k
  | 0, _ => rfl
  | k + 1, hk => by rw [bytesIn, bytesIn, bytesIn_congr h k (by omega), h k (by omega)]
theorem spreadTo_congr {a b : List Int} (h : ∀ j, j < 64 → nth a j = nth b j) : ∀ k, spreadTo a k = spreadTo b k
  | 0 => bytesIn_congr h 64 (Nat.le_refl _)
  | k + 1 => by rw [spreadTo, spreadTo, spreadTo_congr h k]
theorem block_congr {a b : List Int} (S : List Int) (h : ∀ j, j < 64 → nth a j = nth b j) : block S a = block S b := by
  rw [block, block, spread, spread, spreadTo_congr h]
theorem blocks_congr {a b : List Int} (S : List Int) : ∀ q, (∀ j, j < 64 * q → nth a j = nth b j) → blocks S a q = blocks S b q
  | 0, _ => rfl
  | q + 1, h => by
    rw [blocks, blocks, blocks_congr S q fun j hj => h j (by omega)]
    exact block_congr _ fun j hj => by rw [nth_drop, nth_drop]; exact h _ (by omega)
theorem blocks_add (S l : List Int) (q : Nat) : ∀ m, blocks S l (q + m) = blocks (blocks S l q) (l.drop (64 * q)) m
  | 0 => rfl
  | m + 1 => by
    rw [← Nat.add_assoc, blocks, blocks, blocks_add S l q m, List.drop_drop]
    congr 2
    omega
theorem padded_split (L : List Int) (n : Nat) : padded L n = L.take (64 * (L.length / 64)) ++ padded (L.drop (64 * (L.length / 64))) n := by
  have hz : zs L.length = zs (L.drop (64 * (L.length / 64))).length := by
    rw [List.length_drop]; unfold zs; omega
  unfold padded pad0
  rw [← hz]
  simp only [← List.append_assoc, List.take_append_drop]
theorem nth_append_left (a b : List Int) (j : Nat) (h : j < a.length) : nth (a ++ b) j = nth a j := by
  simp [nth, List.getElem?_append_left h]
theorem length_padded (R : List Int) (n : Nat) : (padded R n).length = R.length + 1 + zs R.length + 8 := by
  simp [padded, length_pad0, length_lenTo]
theorem sum_eq (L : List Int) : sum L = digestTo (blocks H0 (padded L L.length) ((padded L L.length).length / 64)) 32 := by
  obtain ⟨q, hq⟩ : ∃ q, q = L.length / 64 := ⟨_, rfl⟩
  have hs := padded_split L L.length
  rw [← hq] at hs
  have ht : (L.take (64 * q)).length = 64 * q := by rw [List.length_take]; omega
  have hl : (padded L L.length).length / 64 = q + (padded (L.drop (64 * q)) L.length).length / 64 := by
    rw [hs, List.length_append, ht]; omega
  have hd : (padded L L.length).drop (64 * q) = padded (L.drop (64 * q)) L.length := by
    rw [hs, List.drop_left' ht]
  have hb : blocks H0 (padded L L.length) q = blocks H0 L q := blocks_congr _ q fun j hj => by
    unfold padded pad0
    rw [List.append_assoc, List.append_assoc, nth_append_left _ _ _ (by omega)]
  rw [hl, blocks_add, hd, hb, sum, final, ← hq]
  rfl
end Go.Proofs.Ytpllcnpcplbobaa.Sha
