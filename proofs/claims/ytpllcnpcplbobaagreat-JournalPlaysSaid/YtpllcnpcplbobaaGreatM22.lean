import Derived.Test.YtpllcnpcplbobaaGreatM07
import Derived.Test.YtpllcnpcplbobaaGreatM21
namespace Go.Proofs.YtpllcnpcplbobaaGreat
open Go.RowKit
theorem bytesI_append (a b : ByteArray) : Sha.bytesI (a ++ b) = Sha.bytesI a ++ Sha.bytesI b := by
  simp [Sha.bytesI]
theorem take_next (l : List Int) (i : Nat) (h : i < l.length) : strOfNums (l.take i) ++ strOfNums [Sha.nth l i] = strOfNums (l.take (i + 1)) := by
  rw [strOfNums_append, List.take_succ_eq_append_getElem h]
  simp [Sha.nth, h]
set_option maxRecDepth 100000 in
set_option maxHeartbeats 1000000 in
theorem rhead_any (rec : ByteArray) (hr : rec.size ≤ 1099511627776) (w : World) :
    Calls Tryz.prog 57 #[.string rec] w fun e w' => e = .returned (.string (strOfNums (headL rec))) ∧ Below w.heap.size w w' := by
  have hc4 : ∀ (W : World) (a b c d : Int), (convert 75 9 (.slice (some ⟨W.heap.size, 0, none⟩) 4 4)).run Tryz.prog (W.alloc (.cells #[.int .u8 a, .int .u8 b, .int .u8 c, .int .u8 d] 5)) = .ok (.string (strOfNums [a, b, c, d])) (W.alloc (.cells #[.int .u8 a, .int .u8 b, .int .u8 c, .int .u8 d] 5)) :=
    fun W a b c d => conv_new W [a, b, c, d] 4 4 (by simp) 5
  have hc1 : ∀ (W : World) (a : Int), (convert 75 9 (.slice (some ⟨W.heap.size, 0, none⟩) 1 1)).run Tryz.prog (W.alloc (.cells #[.int .u8 a] 5)) = .ok (.string (strOfNums [a])) (W.alloc (.cells #[.int .u8 a] 5)) :=
    fun W a => conv_new W [a] 1 1 (by simp) 5
  obtain ⟨L, hL⟩ : ∃ L, L = Sha.sum (num4 rec.size ++ Sha.bytesI rec) := ⟨_, rfl⟩
  have hlen : L.length = 32 := by rw [hL, Sha.length_sum]
  have hsum := fun W => rsum_any (strOfNums (num4 rec.size) ++ rec) (by rw [ByteArray.size_append, strOfNums_size]; simp only [num4, List.length_cons, List.length_nil]; omega) W
  rw [bytesI_append, bytesI_strOfNums (isBytes_num4 _), ← hL] at hsum
  simp only [num4] at hsum
  have HS := Lib.hid hsum
  have HL := Lib.hid hL
  have HLN := Lib.hid hlen
  have h4 : ∀ a b c d, (strOfNums [a, b, c, d]).size = 4 := fun a b c d => by rw [strOfNums_size]; rfl
  have h1 : ∀ a, (strOfNums [a]).size = 1 := fun a => by rw [strOfNums_size]; rfl
  have HI : (Tryz.prog.info? 107).map (·.size) = some (Sha.u8s L).toArray.size := by rw [hL]; exact infoSum _
  have HZ : (#[.int .u8 0, .int .u8 0, .int .u8 0, .int .u8 0, .int .u8 0, .int .u8 0, .int .u8 0, .int .u8 0, .int .u8 0, .int .u8 0, .int .u8 0, .int .u8 0, .int .u8 0, .int .u8 0, .int .u8 0, .int .u8 0, .int .u8 0, .int .u8 0, .int .u8 0, .int .u8 0, .int .u8 0, .int .u8 0, .int .u8 0, .int .u8 0, .int .u8 0, .int .u8 0, .int .u8 0, .int .u8 0, .int .u8 0, .int .u8 0, .int .u8 0, .int .u8 0] : Array Value).size = (Sha.u8s L).toArray.size := by rw [hL]; exact sizeSum _
  have HI := Lib.hid HI
  have HZ := Lib.hid HZ
  clear hsum hL hlen
  go_enter Tryz.func57, Tryz.ntmps57
  go_wp2_with (first | (go_at_call 65; refine (HS.out _).mono ?_; rintro e w1 ⟨rfl, hb1⟩; have B1 := Lib.hid hb1; clear hb1) | (with_reducible refine wpList_store_rowTo rfl 107 _ _ rfl rfl _ (Sha.u8s L).toArray (by kernel_rfl) (by kernel_rfl) 107 _ (heap_alloc_new _ _) HI.out HZ.out (u8s_one _) ?_; rw [setRow_alloc]))
  obtain ⟨N4, hN⟩ : ∃ N4, N4 = strOfNums [(rec.size : Int) / 16777216 % 256, (rec.size : Int) / 65536 % 256, (rec.size : Int) / 256 % 256, (rec.size : Int) % 256] := ⟨_, rfl⟩
  have hN4 : N4.size = 4 := by rw [hN]; exact h4 _ _ _ _
  rw [← hN]
  have HN := Lib.hid hN
  clear hN h4 hc4
  obtain ⟨wo, rfl⟩ : ∃ wo : World, wo = w1 := ⟨_, rfl⟩
  go_loopw [6, 7] (fun s i wr => ∃ k : Nat, k ≤ 8 ∧ i = .int .i64 k ∧ s = .string (N4 ++ strOfNums (L.take k)) ∧ wr.heap[wo.heap.size]? = some (.cells (Sha.u8s L).toArray 107 (0, 0)) ∧ Below wo.heap.size wo wr)
    (fun _ i _ => 8 - (intOf i).toNat)
  case atStart => exact ⟨0, by omega, rfl, by rw [List.take_zero, show strOfNums [] = ByteArray.empty from rfl, ByteArray.append_empty], heap_alloc_new _ _, (Below.refl _ _).alloc (Nat.le_refl _) _⟩
  case round =>
    obtain ⟨k, hk, rfl, rfl, hd, hbel⟩ := hrel
    by_cases hlk : k < 8
    · have hcd : wr.cell? ⟨wo.heap.size, k, none⟩ = some (.int .u8 (Sha.nth L k)) := by
        rw [cell_of_row wr _ _ _ _ _ hd]; simpa using u8s_get _ _ (by rw [HLN.out]; omega)
      have hsz : (N4 ++ strOfNums (L.take k)).size = 4 + k := by rw [ByteArray.size_append, hN4, strOfNums_size, List.length_take, HLN.out]; omega
      go_wp2_with fail
      go_roundw
      case measure => simp [intOf]; omega
      case rel =>
        have hlt := (Array.getElem?_eq_some_iff.1 hd).1
        exact ⟨k + 1, by omega, by go_num, by rw [ByteArray.append_assoc, take_next _ _ (by rw [HLN.out]; omega)], (heap_alloc_old _ _ hlt).trans hd, hbel.alloc hbel.size _⟩
    · have hk8 : k = 8 := by omega
      rw [hk8]
      go_wp2
      go_ret
      refine ⟨?_, ?_⟩
      · rw [HN.out, strOfNums_append, HL.out]; rfl
      · exact (((Below.refl _ _).alloc (Nat.le_refl _) _).trans ((B1.out).mono (by simp))).trans (hbel.mono (by have := B1.out.size; simp at this; omega))
/-- What the document's frame answers. -/
def rframeV (rec : ByteArray) : Value := if rec.size ≤ 1048576 then .tuple #[.string (frameS rec), .int .i64 0] else .tuple #[.string ⟨#[]⟩, .int .i64 6]
set_option maxRecDepth 100000 in
theorem rframe_any (rec : ByteArray) (w : World) : Calls Tryz.prog 37 #[.string rec] w fun e w' => e = .returned (rframeV rec) ∧ Below w.heap.size w w' := by
  go_enter Tryz.func37, Tryz.ntmps37
  by_cases hr : rec.size ≤ 1048576
  · have h12 := size_head rec
    have e1 : rframeV rec = .tuple #[.string (strOfNums (headL rec) ++ rec), .int .i64 0] := by rw [rframeV, if_pos hr]; rfl
    go_wp2_with (go_at_call 57; refine (rhead_any rec (by omega) _).mono ?_; rintro e w1 ⟨rfl, hb1⟩)
    go_ret2
    exact ⟨by rw [e1]; rfl, hb1⟩
  · have e1 : rframeV rec = .tuple #[.string ⟨#[]⟩, .int .i64 6] := by rw [rframeV, if_neg hr]
    go_wp2_with fail
    go_ret2
    exact ⟨by rw [e1]; rfl, Below.refl _ _⟩
end Go.Proofs.YtpllcnpcplbobaaGreat
