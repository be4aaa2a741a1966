import Derived.Test.YtpllcnpcplbobaaDoorSha4
import Derived.LoopN
namespace Go.Proofs.YtpllcnpcplbobaaDoor
open Go.RowKit
set_option maxRecDepth 100000 in
theorem new_any (w : World) : Calls Tryd.prog 50 #[] w fun e w' => e = .returned (.pointer (some ⟨w.heap.size + 1, 0, none⟩)) ∧
    w' = (w.alloc (.cells (Sha.words Sha.H0) 105)).alloc (.cells (Sha.hashCells Sha.H0 (.slice none 0 0) ((0 : Nat) : Int)) 108) := by
  go_enter Tryd.func50, Tryd.ntmps50
  go_wp2_with (go_at_call 60; refine (begin_any _).mono ?_; rintro e w1 ⟨rfl, rfl⟩)
  go_ret
  exact ⟨rfl, by kernel_rfl⟩
theorem infoSum (L : List Int) : (Tryd.prog.info? 83).map (·.size) = some (Sha.u8s (Sha.sum L)).toArray.size := by rw [List.size_toArray, Sha.length_u8s, Sha.length_sum]; kernel_rfl
theorem sizeSum (L : List Int) : (#[.int .u8 0, .int .u8 0, .int .u8 0, .int .u8 0, .int .u8 0, .int .u8 0, .int .u8 0, .int .u8 0, .int .u8 0, .int .u8 0, .int .u8 0, .int .u8 0, .int .u8 0, .int .u8 0, .int .u8 0, .int .u8 0, .int .u8 0, .int .u8 0, .int .u8 0, .int .u8 0, .int .u8 0, .int .u8 0, .int .u8 0, .int .u8 0, .int .u8 0, .int .u8 0, .int .u8 0, .int .u8 0, .int .u8 0, .int .u8 0, .int .u8 0, .int .u8 0] : Array Value).size = (Sha.u8s (Sha.sum L)).toArray.size := by
  have h : (Sha.u8s (Sha.sum L)).toArray.size = 32 := by rw [List.size_toArray, Sha.length_u8s, Sha.length_sum]
  rw [h]; rfl
theorem new_calls (w : World) : Calls Tryd.prog 50 #[] w fun e w' => e = .returned (.pointer (some ⟨w.heap.size + 1, 0, none⟩)) ∧
    (Below w.heap.size w w' ∧ w'.heap[w.heap.size + 1]? = some (.cells (Sha.hashCells Sha.H0 (.slice none 0 0) ((0 : Nat) : Int)) 108 (0, 0))) := by
  refine (new_any w).mono fun e w' ⟨he, hw⟩ => ⟨he, ?_, ?_⟩
  · rw [hw]; exact ((Below.refl _ _).alloc (Nat.le_refl _) _).alloc (by simp) _
  · rw [hw]; exact heap_alloc2_new _ _ _
set_option maxRecDepth 100000 in
set_option maxHeartbeats 1000000 in
/-- The digest of two texts, the first one short. -/
theorem sum_any (pb : Nat) (p q : ByteArray) (hp : p.size < 64) (hq : q.size ≤ 70368744177664) (w : World) (h0 : w.cell? ⟨pb, 0, none⟩ = some (.string p)) (h1 : w.cell? ⟨pb, 1, none⟩ = some (.string q)) :
    Calls Tryd.prog 43 #[.slice (some ⟨pb, 0, none⟩) 2 2] w fun e w' => e = .returned (.agg (Sha.u8s (Sha.sum (Sha.bytesI p ++ Sha.bytesI q))).toArray) ∧ Below w.heap.size w w' := by
  go_enter Tryd.func43, Tryd.ntmps43
  go_wp2_with (go_at_call 50; refine (new_calls _).mono ?_; rintro e W ⟨rfl, hW, e2⟩; have HW := Lib.hid hW; have E2 := Lib.hid e2; clear hW e2)
  have hW := HW.out
  have e2 := E2.out
  simp only [World.size_alloc] at hW e2
  have e0 := (hW.block w.heap.size (by omega)).trans (heap_alloc_new w _)
  have hbW : Below w.heap.size w W := ((Below.refl _ _).alloc (Nat.le_refl _) _).trans (hW.mono (by omega))
  have hszW : w.heap.size + 1 + 1 < W.heap.size := (Array.getElem?_eq_some_iff.1 e2).1
  have hA1 := add_any (w.heap.size + 1 + 1) Sha.H0 [] rfl 0 (by omega) p W (by simpa using Sha.isBytes_bytesI p) ⟨_, e2, World.ownsRow_nil _ _ _ _⟩ (by simp; omega)
  have H1 := Lib.hid hA1
  have E0 := Lib.hid e0
  have HB := Lib.hid hbW
  have g0 : W.cell? ⟨pb, 0, none⟩ = some (.string p) := (hbW.cell (World.block_lt_of_cell? w _ h0)).trans h0
  have g1 := Lib.hid ((hbW.cell (World.block_lt_of_cell? w _ h1)).trans h1)
  have hpb := World.block_lt_of_cell? w _ h0
  simp only at hpb
  clear hA1 e0 e2 hbW hW HW E2 h0 h1
  refine wp_loop_rounds 3 ?_
  rw [rounds_succ]
  go_wp2_with (go_at_call 51; refine (H1.out).mono ?_; rintro e w2 ⟨rfl, _, hb2, hown2⟩; have H2 := Lib.hid hb2; have O2 := Lib.hid hown2; clear hb2 hown2)
  have hown := O2.out (by simpa using hp)
  simp only [List.nil_append, Nat.zero_add] at hown
  have h2 := H2.out
  have hA2 := add_any (w.heap.size + 1 + 1) Sha.H0 (Sha.bytesI p) rfl p.size (by omega) q w2 (Sha.isBytes_append (Sha.isBytes_bytesI p) (Sha.isBytes_bytesI q)) hown (by rw [Sha.length_bytesI]; omega)
  have H3 := Lib.hid hA2
  have HW2 := Lib.hid (HB.out.trans (h2.mono (by omega)))
  have E02 := Lib.hid ((h2.block w.heap.size (by omega)).trans E0.out)
  have q1 : w2.cell? ⟨pb, 1, none⟩ = some (.string q) := (h2.cell (by simp; omega)).trans g1.out
  have hsz2 := h2.size
  clear hA2 hown h2 H1 H2 O2 E0 HB g0 g1
  rw [rounds_succ]
  go_wp2_with (go_at_call 51; refine (H3.out).mono ?_; rintro e w3 ⟨rfl, ha3, hb3, _⟩; have A3 := Lib.hid ha3; have B3 := Lib.hid hb3; clear ha3 hb3)
  rw [rounds_succ]
  have h3 := B3.out
  obtain ⟨x0, x1, x2, x3, x4, x5, x6, x7, hV⟩ := Sha.list8 (show (Sha.blocks Sha.H0 (Sha.bytesI p ++ Sha.bytesI q) (((Sha.bytesI p).length + q.size) / 64)).length = 8 by rw [Sha.length_blocks]; rfl)
  have ha3 := A3.out
  rw [hV] at ha3
  have hS := hsum_any (w.heap.size + 1 + 1) x0 x1 x2 x3 x4 x5 x6 x7 _ (by simp only [List.length_drop, List.length_append, Sha.length_bytesI]; omega) (p.size + q.size) (by omega) w3 (Sha.isBytes_drop (Sha.isBytes_append (Sha.isBytes_bytesI p) (Sha.isBytes_bytesI q)) _) ha3
  rw [← hV] at hS
  have e4 : Sha.final (Sha.blocks Sha.H0 (Sha.bytesI p ++ Sha.bytesI q) (((Sha.bytesI p).length + q.size) / 64)) (List.drop (64 * (((Sha.bytesI p).length + q.size) / 64)) (Sha.bytesI p ++ Sha.bytesI q)) (p.size + q.size) = Sha.sum (Sha.bytesI p ++ Sha.bytesI q) := by
    simp [Sha.sum, Sha.length_bytesI]
  rw [e4] at hS
  have H4 := Lib.hid hS
  have HW3 := Lib.hid (HW2.out.trans (h3.mono (by omega)))
  have E03 := Lib.hid ((h3.block w.heap.size (by omega)).trans E02.out)
  have hsz3 := h3.size
  clear hS ha3 hV h3 A3 B3 H3 E02 HW2 q1 e4
  go_wp2_with (first | (go_at_call 52; refine (H4.out).mono ?_; rintro e w4 ⟨rfl, hb4⟩; have B4 := Lib.hid hb4; clear hb4) | (with_reducible refine wpList_store_rowTo rfl 83 _ _ rfl rfl w.heap.size (Sha.u8s (Sha.sum (Sha.bytesI p ++ Sha.bytesI q))).toArray (by kernel_rfl) (by kernel_rfl) 83 _ (((B4.out).block w.heap.size (by omega)).trans E03.out) (infoSum _) (sizeSum _) (u8s_one _) ?_))
  refine bodyPost_ret (results_cell_row rfl _ _ w.heap.size 83 (Sha.u8s (Sha.sum (Sha.bytesI p ++ Sha.bytesI q))).toArray (0, 0) _ (by kernel_rfl) (setRow_heap _ _ _ _ _ _ (((B4.out).block w.heap.size (by omega)).trans E03.out)) Tryd.underlying83 rfl (infoSum _)) rfl ⟨rfl, ?_⟩
  exact below_setRow (HW3.out.trans ((B4.out).mono (by omega))) (Nat.le_refl _) _
end Go.Proofs.YtpllcnpcplbobaaDoor
