import Derived.Test.YtpllcnpcplbobaaDoorJr8
import Derived.Test.YtpllcnpcplbobaaDoorBld1
import Derived.Test.YtpllcnpcplbobaaDoorItoaD
import Derived.Lib.ItoaLen
import Derived.Lib.AppendIntMem
namespace Go.Proofs.YtpllcnpcplbobaaDoor
open Go.RowKit
set_option linter.unusedVariables false
/-! A row of texts as bytes. -/
def rowL : List ByteArray → List UInt8
  | [] => []
  | x :: l => (Lib.itoa (x.size : Int) ++ 58 :: x.data.toList) ++ rowL l
def rowB (l : List ByteArray) : ByteArray := ⟨(rowL l).toArray⟩
theorem rowL_snoc (l : List ByteArray) (x : ByteArray) : rowL (l ++ [x]) = rowL l ++ (Lib.itoa (x.size : Int) ++ 58 :: x.data.toList) := by
  induction l with
  | nil => simp [rowL]
  | cons a l ih => rw [List.cons_append, rowL, ih, rowL]; simp only [List.append_assoc]
theorem itoa_short (x : ByteArray) (hx : x.size ≤ 1099511627776) : (Lib.itoa (x.size : Int)).length ≤ 21 := Lib.itoa_length_le _ (by omega) (by omega)
theorem bytes_len (x : ByteArray) : x.data.toList.length = x.size := Array.length_toList
theorem rowL_len : ∀ l : List ByteArray, (∀ x ∈ l, x.size ≤ 100) → (rowL l).length ≤ 122 * l.length
  | [], _ => Nat.zero_le _
  | x :: l, h => by
    have h1 := h x (List.mem_cons_self ..)
    have h2 := rowL_len l fun y hy => h y (List.mem_cons_of_mem _ hy)
    have h3 := itoa_short x (by omega)
    have h4 : x.data.toList.length = x.size := bytes_len x
    simp only [rowL, List.length_append, List.length_cons]
    omega
theorem rowB_size (l : List ByteArray) : (rowB l).size = (rowL l).length := by simp [rowB, ByteArray.size]
set_option maxHeartbeats 2000000 in
set_option maxRecDepth 100000 in
theorem writeByte_any (B b : Nat) (bs : List Value) (c : Int) (w : World) (h : Lib.IsBuilder 56 5 B b bs w) (hlen : bs.length + 1 ≤ 140737488355328) (hBw : B ≤ w.heap.size) :
    Calls Tryd.prog 26 #[.pointer (some ⟨b, 0, none⟩), .int .u8 c] w fun e w' => e = .returned .nilIface ∧ (Lib.BuilderAt 56 5 B b (.pointer (some ⟨b, 0, none⟩)) (bs ++ [.int .u8 c]) w' ∧ Below B w w') := by
  obtain ⟨i0, hi, hz0, hz1, hz2⟩ := info_parts infoU8
  go_enter Tryd.func26, Tryd.ntmps26
  go_wp2_with (go_at_call 39; refine (copyCheck_any B b bs _ h).mono ?_)
  rintro e w1 ⟨rfl, h1, hb1⟩
  obtain ⟨hB, v, hbk, hown, hne⟩ := h1
  have c0 : w1.cell? ⟨b, 0, none⟩ = some (.pointer (some ⟨b, 0, none⟩)) := by rw [Lib.cell_of_heap hbk]; rfl
  have c1 : w1.cell? ⟨b, 1, none⟩ = some v := by rw [Lib.cell_of_heap hbk]; rfl
  go_wp2_with (at_builtin; refine wpList_append_own _ rfl _ _ 54 rfl B 5 i0 (.int .u8 0) 1 1 Tryd.underlying54 hi hz0 hz1 hz2 rfl (by decide) _ _ _ rfl (hown.alloc _) ⟨w1.heap.size, 0, none⟩ 1 1 [.int .u8 c] rfl rfl ?c1 ?c2 ?c3 ?c4 ?c5 ?_)
  case c1 =>
    intro j u hj
    match j, hj with
    | 0, hj => simp at hj; subst hj; simp [Addr.add]
  case c2 => intro u hu; simp at hu; subst hu; rfl
  case c3 => unfold maxLen; omega
  case c4 => omega
  case c5 => have := hb1.size; simp; omega
  intro v' w2 hown' hgrow _
  have hlt : b < w1.heap.size := by
    rcases Nat.lt_or_ge b w1.heap.size with h' | h'
    · exact h'
    · simp [Array.getElem?_eq_none h'] at hbk
  have hb2 : w2.heap[b]? = some (.cells #[.pointer (some ⟨b, 0, none⟩), v] 56 (0, 0)) := by
    rw [hgrow.block b (by simp; omega) (fun e => hne e.symm), Lib.alloc_old w1 _ b hlt]
    exact hbk
  have d0 : w2.cell? ⟨b, 0, none⟩ = some (.pointer (some ⟨b, 0, none⟩)) := by rw [Lib.cell_of_heap hb2]; rfl
  have d1 : w2.cell? ⟨b, 1, none⟩ = some v := by rw [Lib.cell_of_heap hb2]; rfl
  have f1 : w2.frozen? ⟨b, 1, none⟩ = false := Lib.frozen_of_heap hb2 1
  obtain ⟨g, cap, rfl⟩ : ∃ g cap, v' = .slice (some ⟨g, 0, none⟩) (bs.length + 1) cap := by
    rcases hown'.2 with ⟨_, h0⟩ | ⟨g, cap, cur, hv, _⟩
    · omega
    · exact ⟨g, cap, hv⟩
  go_wp2
  go_ret
  refine ⟨rfl, ?_, ?_⟩
  · exact Lib.BuilderAt.put (T := 56) (e := 5) hB hb2 (bs' := bs ++ [.int .u8 c]) (by simpa using hown') (by decide)
  · exact ((hb1.alloc (by have := hb1.size; omega) _).grown hgrow (by have := hb1.size; simp; omega) (fun k hk => (hown.lt k hk).1)).setCell (p := ⟨b, 1, none⟩) hB _
theorem below_grow0 (w : World) (k : Nat) (os : Array Obj) : Below w.heap.size w (Sort.grow (w.drewN k) os) :=
  ⟨rfl, rfl, rfl, by simp [Sort.grow, World.drewN], fun i hi => by simp [Sort.grow, World.drewN, Array.getElem?_append, hi]⟩
theorem isBuilder_kept {w w' : World} {T e : TypeId} {B b : Nat} {bs : List Value} (hk : ∀ k, B ≤ k → k < w.heap.size → w'.heap[k]? = w.heap[k]?) (h : Lib.IsBuilder T e B b bs w) : Lib.IsBuilder T e B b bs w' := by
  have ho : ∀ {v : Value} {n : Nat} {xs : List Value}, w.ownsRow B e 1 v n xs → w'.ownsRow B e 1 v n xs := fun h => by
    refine ⟨h.1, ?_⟩
    rcases h.2 with h0 | ⟨g, cap, cur, hv, hb, hg, hr⟩
    · exact .inl h0
    · exact .inr ⟨g, cap, cur, hv, hb, (hk g hb (Array.getElem?_eq_some_iff.1 hg).1).trans hg, hr⟩
  have hbd : ∀ {p : Value}, Lib.BuilderAt T e B b p bs w → Lib.BuilderAt T e B b p bs w' := fun h => by
    obtain ⟨hB, v, hbk, hown, hne⟩ := h
    exact ⟨hB, v, (hk b hB (Array.getElem?_eq_some_iff.1 hbk).1).trans hbk, ho hown, hne⟩
  rcases h with h | h
  · exact .inl (hbd h)
  · exact .inr (hbd h)
set_option maxRecDepth 100000 in
set_option maxHeartbeats 2000000 in
theorem row_any (va : Value) (A : List ByteArray) (hA12 : A.length ≤ 12) (hA100 : ∀ x ∈ A, x.size ≤ 100) (w : World) (hA : TextsAt w va A) (htab : Lib.TabIs Tryd.prog w "internal/strconv.uint64pow10" .u64 Lib.pow10Tab) :
    Calls Tryd.prog 9 #[va] w fun e w' => e = .returned (.string (rowB A)) ∧ Below w.heap.size w w' := by
  have htb := Lib.tabBelow_of_tabIs htab
  obtain ⟨a, c, rfl, hac⟩ := hA
  have HA := Lib.hid hac
  have HTB := Lib.hid htb
  have H100 := Lib.hid hA100
  obtain ⟨n, hn⟩ : ∃ n, n = A.length := ⟨_, rfl⟩
  rw [← hn] at hA12 ⊢
  have HN := Lib.hid hn
  clear hac htb htab hn hA100
  go_enter Tryd.func9, Tryd.ntmps9
  go_wp2_with fail
  go_loopw [8] (fun i wr => ∃ k : Nat, k ≤ n ∧ i = .int .i64 k ∧ Lib.IsBuilder 56 5 w.heap.size w.heap.size (Lib.byteCells (rowL (A.take k))) wr ∧ Below w.heap.size w wr) (fun i _ => n - (intOf i).toNat)
  case atStart => exact ⟨0, by omega, rfl, Lib.fresh_isBuilder _ _ w, (Below.refl _ _).alloc (Nat.le_refl _) _⟩
  case round =>
    obtain ⟨k, hk, rfl, hI, hb⟩ := hrel
    by_cases hlt : k < n
    · have hAk : k < A.length := by rw [← HN.out]; exact hlt
      rcases HA.out with h0 | ⟨b1, o1, rfl, hc1⟩
      · rw [← HN.out] at h0; omega
      have d1 : wr.cell? ⟨b1, o1 + k, none⟩ = some (.string A[k]) := (hb.cell (World.block_lt_of_cell? _ _ (hc1 k hAk))).trans (hc1 k hAk)
      have hsm := H100.out A[k] (List.getElem_mem hAk)
      have htk : rowL (A.take (k + 1)) = rowL (A.take k) ++ (Lib.itoa (A[k].size : Int) ++ 58 :: A[k].data.toList) := by rw [List.take_succ_eq_append_getElem hAk, rowL_snoc]
      have hlen := rowL_len (A.take k) fun y hy => H100.out y (List.mem_of_mem_take hy)
      have hlk : (A.take k).length ≤ 12 := by rw [List.length_take]; omega
      obtain ⟨x, hx⟩ : ∃ x, x = A[k] := ⟨_, rfl⟩
      rw [← hx] at d1 hsm htk
      obtain ⟨L, hL⟩ : ∃ L, L = rowL (A.take k) := ⟨_, rfl⟩
      rw [← hL] at htk hlen hI
      have hit := itoa_short x (by omega)
      obtain ⟨ds, hds⟩ : ∃ ds, ds = Lib.itoa (x.size : Int) := ⟨_, rfl⟩
      have hitoa := fun W h => itoa_laid (x.size : Int) (by omega) (by omega) W h
      rw [← hds] at htk hit hitoa
      have HT := Lib.hid htk
      have HI := Lib.hid hI
      have HB := Lib.hid hb
      have HIT := Lib.hid hitoa
      have hl2 : L.length ≤ 1464 := by omega
      have hxl : x.data.toList.length = x.size := bytes_len x
      have HXL := Lib.hid hxl
      clear htk hI hb hc1 hx hL hds hitoa hlen hlk hxl
      go_wp2_with (first | (go_at_call 25; refine (HIT.out _ (HTB.out _ HB.out)).mono ?_; rintro e w1 ⟨rfl, m1, os1, hw1⟩; have B1 := Lib.hid (show Below wr.heap.size wr w1 by rw [hw1]; exact below_grow0 _ _ _); have I1 := Lib.hid (isBuilder_kept (fun k _ hk => B1.out.block k hk) HI.out); have BB1 := Lib.hid (HB.out.trans (B1.out.mono HB.out.size)); clear hw1) | (go_at_call 24; refine (writeString_any w.heap.size w.heap.size _ ⟨ds.toArray⟩ _ I1.out (by rw [Lib.byteCells_length, show (⟨ds.toArray⟩ : ByteArray).size = ds.length from by simp [ByteArray.size]]; omega) BB1.out.size).mono ?_; rintro e w2 ⟨rfl, hi2, hb2⟩; have I2 := Lib.hid (Or.inr hi2 : Lib.IsBuilder _ _ _ _ _ w2); have BB2 := Lib.hid (BB1.out.trans hb2); clear hi2 hb2 I1) | (go_at_call 26; refine (writeByte_any w.heap.size w.heap.size _ 58 _ I2.out (by rw [List.length_append, Lib.byteCells_length, Lib.strCells_length, show (⟨ds.toArray⟩ : ByteArray).size = ds.length from by simp [ByteArray.size]]; omega) BB2.out.size).mono ?_; rintro e w3 ⟨rfl, hi3, hb3⟩; have I3 := Lib.hid (Or.inr hi3 : Lib.IsBuilder _ _ _ _ _ w3); have BB3 := Lib.hid (BB2.out.trans hb3); clear hi3 hb3 I2) | (go_at_call 24; refine (writeString_any w.heap.size w.heap.size _ x _ I3.out (by rw [List.length_append, List.length_append, Lib.byteCells_length, Lib.strCells_length]; rw [show (⟨ds.toArray⟩ : ByteArray).size = ds.length from by simp [ByteArray.size]]; simp only [List.length_cons, List.length_nil]; omega) BB3.out.size).mono ?_; rintro e w4 ⟨rfl, hi4, hb4⟩; have I4 := Lib.hid (Or.inr hi4 : Lib.IsBuilder _ _ _ _ _ w4); have BB4 := Lib.hid (BB3.out.trans hb4); clear hi4 hb4))
      go_roundw
      case measure => simp [intOf]; omega
      case rel =>
        refine ⟨k + 1, by omega, by go_num, ?_, BB4.out⟩
        rw [HT.out]
        have h4 := I4.out
        have e : Lib.byteCells (L ++ (ds ++ 58 :: x.data.toList)) = Lib.byteCells L ++ Lib.strCells ⟨ds.toArray⟩ ++ [.int .u8 58] ++ Lib.strCells x := by
          rw [Lib.strCells_toArray, Lib.strCells_eq, Lib.byteCells_append, Lib.byteCells_append]
          simp [Lib.byteCells]
        rw [e]
        exact h4
    · have hkn : A.take k = A := List.take_of_length_le (by rw [← HN.out]; omega)
      rw [hkn] at hI
      have HI := Lib.hid hI
      have HB := Lib.hid hb
      clear hkn hI hb
      go_wp2_with (go_at_call 27; refine (bldString_any w.heap.size w.heap.size (rowL A) _ HI.out HB.out.size).mono ?_; rintro e w2 ⟨rfl, hb2⟩; have B2 := Lib.hid hb2; clear hb2)
      go_ret
      exact ⟨rfl, HB.out.trans B2.out⟩
end Go.Proofs.YtpllcnpcplbobaaDoor
