import Derived.Test.YtpllcnpcplbobaaDoorScanPure
namespace Go.Proofs.YtpllcnpcplbobaaDoor
open Go.RowKit
/-! Frames, one behind the other, and what is read out of them. -/
def framesL : List ByteArray → ByteArray
  | [] => ⟨#[]⟩
  | r :: l => frameS r ++ framesL l
theorem framesL_snoc (l : List ByteArray) (r : ByteArray) : framesL (l ++ [r]) = framesL l ++ frameS r := by
  induction l with
  | nil => show frameS r ++ ByteArray.empty = ByteArray.empty ++ frameS r; rw [ByteArray.append_empty, ByteArray.empty_append]
  | cons a l ih => rw [List.cons_append, framesL, ih, framesL, ByteArray.append_assoc]
theorem bat_list (s : ByteArray) (i : Nat) : bat s i = ((s.data.toList[i]?).map UInt8.toNat).getD 0 := by
  unfold bat
  split
  · rename_i h
    have h' : i < s.data.toList.length := by rw [Array.length_toList]; exact h
    rw [List.getElem?_eq_getElem h']
    simp
    rfl
  · rename_i h
    rw [List.getElem?_eq_none (by rw [Array.length_toList]; exact Nat.le_of_not_lt h)]
    rfl
theorem bat_right (a b : ByteArray) (i : Nat) : bat (a ++ b) (a.size + i) = bat b i := by
  have e : (a ++ b).data.toList = a.data.toList ++ b.data.toList := by simp
  have hs : a.size = a.data.toList.length := by rw [Array.length_toList]; rfl
  rw [bat_list, bat_list, e, hs, List.getElem?_append_right (Nat.le_add_right _ _), Nat.add_sub_cancel_left]
theorem bat_left (a b : ByteArray) (i : Nat) (h : i < a.size) : bat (a ++ b) i = bat a i := by
  have e : (a ++ b).data.toList = a.data.toList ++ b.data.toList := by simp
  have hs : a.size = a.data.toList.length := by rw [Array.length_toList]; rfl
  rw [bat_list, bat_list, e, List.getElem?_append_left (by omega)]
theorem bat_nums {l : List Int} (i : Nat) (h : i < l.length) : bat (strOfNums l) i = (l[i].toNat) % 256 := by
  rw [bat_list, strOfNums_data, List.getElem?_map, List.getElem?_eq_getElem h]
  simp
theorem extract_right (a b : ByteArray) (i j : Nat) : (a ++ b).extract (a.size + i) (a.size + j) = b.extract i j := by
  apply ByteArray.ext
  have hs : a.size = a.data.size := rfl
  have h1 : a.data.size + i - a.data.size = i := by omega
  have h2 : a.data.size + j - a.data.size = j := by omega
  have h0 : a.data.extract (a.data.size + i) (a.data.size + j) = #[] := by
    apply Array.extract_empty_of_size_le_start
    omega
  rw [ByteArray.data_extract, ByteArray.data_append, ByteArray.data_extract, hs, Array.extract_append, h0, h1, h2]
  simp
theorem extract_all (a : ByteArray) (n : Nat) (h : n = a.size) : a.extract 0 n = a := by
  subst h
  apply ByteArray.ext
  rw [ByteArray.data_extract]
  show a.data.extract 0 a.data.size = a.data
  exact Array.extract_size
theorem numAt_right (a b : ByteArray) : numAt (a ++ b) a.size = numAt b 0 := by
  have h0 := bat_right a b 0
  rw [Nat.add_zero] at h0
  simp only [numAt, bat_right, h0]
theorem numAt_frame (r : ByteArray) (hr : r.size < 4294967296) (b : ByteArray) : numAt (frameS r ++ b) 0 = r.size := by
  have h12 := size_head r
  have hl := length_headL r
  have hb : ∀ i, i < 4 → bat (frameS r ++ b) i = ((headL r)[i]!.toNat) % 256 := fun i hi => by
    rw [bat_left _ _ _ (by rw [size_frameS]; omega), frameS, bat_left _ _ _ (by omega), bat_nums i (by omega)]
    rw [getElem!_pos _ _ (by omega)]
  unfold numAt
  rw [hb 0 (by omega), hb 1 (by omega), hb 2 (by omega), hb 3 (by omega)]
  simp only [headL, num4, List.cons_append, List.getElem!_cons_zero, List.getElem!_cons_succ]
  omega
theorem stepAt_frame (pre r b : ByteArray) (hr : r.size ≤ 1048576) : stepAt (pre ++ (frameS r ++ b)) pre.size = some r := by
  have hn : numAt (pre ++ (frameS r ++ b)) pre.size = r.size := by rw [numAt_right, numAt_frame r (by omega)]
  have hsz : (pre ++ (frameS r ++ b)).size = pre.size + (12 + r.size + b.size) := by rw [ByteArray.size_append, ByteArray.size_append, size_frameS]
  have h12 := size_head r
  have e1 : (pre ++ (frameS r ++ b)).extract (pre.size + 12) (pre.size + 12 + r.size) = r := by
    rw [Nat.add_assoc, extract_right, frameS, ByteArray.append_assoc]
    have h := extract_right (strOfNums (headL r)) (r ++ b) 0 r.size
    rw [h12, Nat.add_zero] at h
    rw [h, extract_append_left _ _ _ (Nat.le_refl _), extract_all _ _ rfl]
  have e2 : (pre ++ (frameS r ++ b)).extract pre.size (pre.size + 12) = strOfNums (headL r) := by
    have h := extract_right pre (frameS r ++ b) 0 12
    rw [Nat.add_zero] at h
    rw [h, frameS, ByteArray.append_assoc, extract_append_left _ _ _ (by omega), extract_all _ _ h12.symm]
  unfold stepAt
  rw [hn, e1, e2, if_pos ⟨by omega, hr, by omega, rfl⟩]
theorem stepAt_front (pre r : ByteArray) (hr : r.size ≤ 1048576) (j : Nat) (hj : j < 12 + r.size) : stepAt (pre ++ (frameS r).extract 0 j) pre.size = none := by
  have hsz : (pre ++ (frameS r).extract 0 j).size = pre.size + j := by rw [ByteArray.size_append, ByteArray.size_extract, size_frameS]; omega
  by_cases h12 : 12 ≤ j
  · have hn : numAt (pre ++ (frameS r).extract 0 j) pre.size = r.size := by
      have hs := size_frameS r
      have e : frameS r = (frameS r).extract 0 j ++ (frameS r).extract j (frameS r).size := by
        apply ByteArray.ext
        have h1 : (frameS r).size = (frameS r).data.size := rfl
        rw [ByteArray.data_append, ByteArray.data_extract, ByteArray.data_extract, h1]
        have h2 : max j (frameS r).data.size = (frameS r).data.size := by omega
        rw [Array.extract_append_extract, Nat.min_eq_left (Nat.zero_le _), h2]
        exact Array.extract_size.symm
      have h := numAt_frame r (by omega) ByteArray.empty
      rw [ByteArray.append_empty] at h
      have hb : ∀ i, i < 4 → bat ((frameS r).extract 0 j) i = bat (frameS r) i := fun i hi => by
        conv => rhs; rw [e]
        rw [bat_left _ _ _ (by rw [ByteArray.size_extract]; omega)]
      rw [numAt_right]
      unfold numAt at h ⊢
      rw [hb 0 (by omega), hb (0 + 1) (by omega), hb (0 + 2) (by omega), hb (0 + 3) (by omega)]
      exact h
    unfold stepAt
    rw [hn, if_neg (by omega)]
  · unfold stepAt
    rw [if_neg (by omega)]
theorem scanF_frames (r0 : ByteArray) (hr0 : r0.size ≤ 1048576) (j : Nat) (hj : j < 12 + r0.size) : ∀ (l : List ByteArray) (f : Nat) (pre : ByteArray), (∀ x ∈ l, x.size ≤ 1048576) → l.length ≤ f →
    scanF f (pre ++ (framesL l ++ (frameS r0).extract 0 j)) pre.size = (l, pre.size + (framesL l).size)
  | [], f, pre, _, _ => by
    have e : framesL [] ++ (frameS r0).extract 0 j = (frameS r0).extract 0 j := ByteArray.empty_append
    rw [e, scanF_none (stepAt_front pre r0 hr0 j hj)]
    rfl
  | r :: l, f, pre, hl, hf => by
    obtain ⟨f, rfl⟩ : ∃ f', f = f' + 1 := ⟨f - 1, by simp at hf; omega⟩
    have ih := scanF_frames r0 hr0 j hj l f (pre ++ frameS r) (fun x hx => hl x (List.mem_cons_of_mem _ hx)) (by simp at hf; omega)
    have e : pre ++ (framesL (r :: l) ++ (frameS r0).extract 0 j) = pre ++ (frameS r ++ (framesL l ++ (frameS r0).extract 0 j)) := by
      rw [framesL, ByteArray.append_assoc]
    rw [e, scanF_some (stepAt_frame pre r _ (hl r (List.mem_cons_self ..)))]
    rw [ByteArray.append_assoc, ByteArray.size_append, size_frameS, ← Nat.add_assoc] at ih
    rw [ih]
    simp only [framesL, ByteArray.size_append, size_frameS]
    congr 1
    omega
theorem size_framesL_ge : ∀ l : List ByteArray, l.length ≤ (framesL l).size
  | [] => Nat.zero_le _
  | r :: l => by
    have := size_framesL_ge l
    rw [framesL, ByteArray.size_append, size_frameS]; simp; omega
theorem scan_frames (l : List ByteArray) (hl : ∀ x ∈ l, x.size ≤ 1048576) (r0 : ByteArray) (hr0 : r0.size ≤ 1048576) (j : Nat) (hj : j < 12 + r0.size) :
    scan (framesL l ++ (frameS r0).extract 0 j) = (l, (framesL l).size) := by
  have h := scanF_frames r0 hr0 j hj l ((framesL l ++ (frameS r0).extract 0 j).size + 1) ByteArray.empty hl (by
    have := size_framesL_ge l
    rw [ByteArray.size_append]; omega)
  rw [ByteArray.empty_append] at h
  have h0 : ByteArray.empty.size = 0 := rfl
  rw [h0, Nat.zero_add] at h
  exact h
end Go.Proofs.YtpllcnpcplbobaaDoor
