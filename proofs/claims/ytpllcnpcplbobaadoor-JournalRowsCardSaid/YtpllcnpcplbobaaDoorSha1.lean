import Derived.Test.YtpllcnpcplbobaaDoorProg
import Derived.Test.YtpllcnpcplbobaaDoorShaPure
import Derived.WalkKit
import Derived.KernelRfl
import Derived.BigQuiet
import Derived.BigRegion
import Derived.RegionTactic
import Derived.ChangeAlike
import Derived.Deep.QuietTactic
import Derived.Deep.LoopGhost
import Derived.Great.BuildSlice
import Derived.Deep.DeepMust
import Derived.Lib.Hide
import Derived.OwnWalk
namespace Go.Proofs.YtpllcnpcplbobaaDoor
open Go.RowKit
theorem setRow_alloc (w : World) (old cs : Array Value) (t : TypeId) (fr : Nat × Nat) : (w.alloc (.cells old t fr)).setRow w.heap.size cs = w.alloc (.cells cs t fr) := by
  have h : (w.heap.push (.cells old t fr)).modify w.heap.size (fun | .cells _ elem frozen => .cells cs elem frozen | o => o) = w.heap.push (.cells cs t fr) := by
    apply Array.ext
    · simp
    · intro i h1 h2
      simp only [Array.getElem_modify, Array.getElem_push]
      by_cases hi : i < w.heap.size
      · simp [hi, show ¬ w.heap.size = i by omega]
      · have : i = w.heap.size := by simp at h1; omega
        subst this
        simp
  exact congrArg (fun x => ({ w with heap := x } : World)) h
theorem turned_any (n : Int) (hn : n = 2 ∨ n = 6 ∨ n = 7 ∨ n = 11 ∨ n = 13 ∨ n = 17 ∨ n = 18 ∨ n = 19 ∨ n = 22 ∨ n = 25) (x : Int) (w : World) :
    Calls Tryd.prog 79 #[.int .u32 x, .int .i64 n] w fun e w' => e = .returned (.int .u32 (Sha.rotr n x)) ∧ w = w' := by
  have hb : ∀ m ∈ [7, 10, 13, 14, 15, 19, 21, 25, 26, 30], bits .and .u64 m 31 = m := by decide
  rcases hn with rfl | rfl | rfl | rfl | rfl | rfl | rfl | rfl | rfl | rfl
  all_goals
    go_enter Tryd.func79, Tryd.ntmps79
    go_wp2_with fail
    go_enter Tryd.func88, Tryd.ntmps88
    first
    | (have hb' := hb 30 (by decide); clear hb; go_wp2; go_ret; exact ⟨rfl, rfl⟩)
    | (have hb' := hb 26 (by decide); clear hb; go_wp2; go_ret; exact ⟨rfl, rfl⟩)
    | (have hb' := hb 25 (by decide); clear hb; go_wp2; go_ret; exact ⟨rfl, rfl⟩)
    | (have hb' := hb 21 (by decide); clear hb; go_wp2; go_ret; exact ⟨rfl, rfl⟩)
    | (have hb' := hb 19 (by decide); clear hb; go_wp2; go_ret; exact ⟨rfl, rfl⟩)
    | (have hb' := hb 15 (by decide); clear hb; go_wp2; go_ret; exact ⟨rfl, rfl⟩)
    | (have hb' := hb 14 (by decide); clear hb; go_wp2; go_ret; exact ⟨rfl, rfl⟩)
    | (have hb' := hb 13 (by decide); clear hb; go_wp2; go_ret; exact ⟨rfl, rfl⟩)
    | (have hb' := hb 10 (by decide); clear hb; go_wp2; go_ret; exact ⟨rfl, rfl⟩)
    | (have hb' := hb 7 (by decide); clear hb; go_wp2; go_ret; exact ⟨rfl, rfl⟩)
set_option maxRecDepth 100000 in
theorem begin_any (w : World) :
    Calls Tryd.prog 60 #[] w fun e w' => e = .returned (.agg (Sha.words [0x6a09e667, 0xbb67ae85, 0x3c6ef372, 0xa54ff53a, 0x510e527f, 0x9b05688c, 0x1f83d9ab, 0x5be0cd19])) ∧ w' = w.alloc (.cells (Sha.words [0x6a09e667, 0xbb67ae85, 0x3c6ef372, 0xa54ff53a, 0x510e527f, 0x9b05688c, 0x1f83d9ab, 0x5be0cd19]) 105) := by
  go_enter Tryd.func60, Tryd.ntmps60
  go_wp2
  refine bodyPost_ret (results_cell_row rfl _ _ w.heap.size 105 (Sha.words [0x6a09e667, 0xbb67ae85, 0x3c6ef372, 0xa54ff53a, 0x510e527f, 0x9b05688c, 0x1f83d9ab, 0x5be0cd19]) (0, 0) _ rfl (heap_alloc_new _ _) Tryd.underlying105 rfl (by kernel_rfl)) rfl ⟨rfl, rfl⟩

set_option maxRecDepth 100000 in
theorem constants_any (w : World) :
    Calls Tryd.prog 77 #[] w fun e w' => e = .returned (.agg (Sha.words Sha.KS)) ∧ w' = w.alloc (.cells (Sha.words Sha.KS) 126) := by
  go_enter Tryd.func77, Tryd.ntmps77
  go_wp2_with (first | (with_reducible refine wpList_buildFlatArrTo rfl 126 103 64 _ rfl .u32 Sha.KS (some 1) rfl (by kernel_rfl) (by kernel_rfl) (by kernel_rfl) (by kernel_rfl) ?_) | (with_reducible refine wpList_store_rowTo rfl 126 _ _ rfl rfl w.heap.size (Sha.words Sha.KS) (by kernel_rfl) (by kernel_rfl) 126 _ (heap_alloc_new _ _) (by kernel_rfl) (by kernel_rfl) (by kernel_rfl) ?_))
  refine bodyPost_ret (results_cell_row rfl _ _ w.heap.size 126 (Sha.words Sha.KS) (0, 0) _ rfl (setRow_heap _ _ _ _ _ _ (heap_alloc_new _ _)) Tryd.underlying126 rfl (by kernel_rfl)) rfl ⟨rfl, ?_⟩
  exact setRow_alloc _ _ _ _ _
theorem info64 (B : List Int) : (Tryd.prog.info? 126).map (·.size) = some (Sha.words (Sha.spread B)).size := by rw [Sha.size_words, Sha.spread, Sha.length_spreadTo]; kernel_rfl
theorem size64 {z : Array Value} (h : z.size = 64) (B : List Int) : z.size = (Sha.words (Sha.spread B)).size := by rw [h, Sha.size_words, Sha.spread, Sha.length_spreadTo]
theorem size_setCell_ (w : World) (a : Addr) (v : Value) : (w.setCell a v).heap.size = w.heap.size := by simp [World.setCell]
set_option maxRecDepth 100000 in
set_option maxHeartbeats 1000000 in
theorem spread_any (bk off cap : Nat) (B : List Int) (hr : ∀ j, j < 64 → 0 ≤ Sha.nth B j ∧ Sha.nth B j < 256) (w : World)
    (hc : ∀ j, j < 64 → w.cell? ⟨bk, off + j, none⟩ = some (.int .u8 (Sha.nth B j))) :
    Calls Tryd.prog 78 #[.slice (some ⟨bk, off, none⟩) 64 cap] w fun e w' => e = .returned (.agg (Sha.words (Sha.spread B))) ∧ Below w.heap.size w w' := by
  have hbk : bk < w.heap.size := block_lt_of_cell (hc 0 (by omega))
  go_enter Tryd.func78, Tryd.ntmps78
  go_wp2_with fail
  go_loopw [13] (fun i wr => ∃ k : Nat, k ≤ 64 ∧ i = .int .i64 k ∧ wr.heap[w.heap.size + 1]? = some (.cells (Sha.words (Sha.bytesIn B k)) 126 (0, 0)) ∧
      (∃ z, wr.heap[w.heap.size]? = some (.cells z 126 (0, 0)) ∧ z.size = 64) ∧ w.heap.size + 1 < wr.heap.size ∧ Below w.heap.size w wr)
    (fun i _ => 64 - (intOf i).toNat)
  case atStart => exact ⟨0, by omega, rfl, heap_alloc2_new _ _ _, ⟨_, heap_alloc2_old _ _ _, by kernel_rfl⟩, by simp, ((Below.refl _ _).alloc (Nat.le_refl _) _).alloc (by simp) _⟩
  case round =>
    obtain ⟨k, hk, rfl, hb, ⟨z, hz, hzs⟩, hsz, hbel⟩ := hrel
    by_cases hlt : k < 64
    · have hcx : wr.cell? ⟨bk, off + k, none⟩ = some (.int .u8 (Sha.nth B k)) := (hbel.cell hbk).trans (hc k hlt)
      have hq := hr k hlt
      have hl := Sha.length_bytesIn B k
      have hcw : wr.cell? ⟨w.heap.size + 1, k / 4, none⟩ = some (.int .u32 (Sha.nth (Sha.bytesIn B k) (k / 4))) := by
        rw [cell_of_row wr _ _ _ _ _ hb]; exact Sha.words_get _ _ (by omega)
      have hfz : wr.frozen? ⟨w.heap.size + 1, k / 4, none⟩ = false := frozen_of_row wr _ _ _ _ hb
      clear hl
      go_wp2
      go_roundw
      case rel =>
        refine ⟨k + 1, by omega, by go_num, ?_, ⟨z, ?_, hzs⟩, by simpa [World.setCell] using hsz, hbel.setCell (by simp) _⟩
        · rw [heap_setCell_same wr _ _ _ _ _ hb, Sha.words_set]; rfl
        · rw [heap_setCell_other wr _ _ _ (by simp)]; exact hz
      case measure => simp [intOf]; omega
    · have hb : wr.heap[w.heap.size + 1]? = some (.cells (Sha.words (Sha.spreadTo B 0)) 126 (0, 0)) := by rw [hb, show k = 64 by omega]; rfl
      clear hr hc
      go_wp2_with fail
      obtain ⟨wo, rfl⟩ : ∃ wo : World, wo = wr := ⟨_, rfl⟩
      go_loopw [6] (fun i wr => ∃ m : Nat, 16 ≤ m ∧ m ≤ 64 ∧ i = .int .i64 m ∧ wr.heap[w.heap.size + 1]? = some (.cells (Sha.words (Sha.spreadTo B (m - 16))) 126 (0, 0)) ∧
          (∃ z, wr.heap[w.heap.size]? = some (.cells z 126 (0, 0)) ∧ z.size = 64) ∧ w.heap.size + 1 < wr.heap.size ∧ Below w.heap.size w wr)
        (fun i _ => 64 - (intOf i).toNat)
      case atStart => exact ⟨16, by omega, by omega, rfl, hb, ⟨z, hz, hzs⟩, hsz, hbel⟩
      case round =>
        clear hb hz hzs hsz hbel z
        obtain ⟨m, hm0, hm, rfl, hb, ⟨z, hz, hzs⟩, hsz, hbel⟩ := hrel
        by_cases hlm : m < 64
        · have hl := Sha.length_spreadTo B (m - 16)
          have hcw : ∀ j, j < 64 → wr.cell? ⟨w.heap.size + 1, j, none⟩ = some (.int .u32 (Sha.nth (Sha.spreadTo B (m - 16)) j)) := fun j hj => by
            rw [cell_of_row wr _ _ _ _ _ hb]; exact Sha.words_get _ _ (by omega)
          have h15 := hcw (m - 15) (by omega)
          have h2 := hcw (m - 2) (by omega)
          have h7 := hcw (m - 7) (by omega)
          have h16 := hcw (m - 16) (by omega)
          have h0 := hcw m (by omega)
          have hfz : wr.frozen? ⟨w.heap.size + 1, m, none⟩ = false := frozen_of_row wr _ _ _ _ hb
          clear hl hcw
          go_wp2_with fail
          go_quiet (fail)
          go_wp2_with (go_at_call 79; refine (turned_any _ (by decide) _ _).mono ?_; rintro e w' ⟨rfl, rfl⟩)
          go_region
          go_wp2
          go_roundw
          case rel =>
            refine ⟨m + 1, by omega, by omega, by go_num, ?_, ⟨z, ?_, hzs⟩, (by rw [size_setCell_]; exact hsz), Below.setCell (w := wr.drewN (nq + 1)) (hbel.trans ⟨rfl, rfl, rfl, Nat.le_refl _, fun _ _ => rfl⟩) (by simp) _⟩
            · rw [heap_setCell_same (wr.drewN (nq + 1)) _ _ _ _ _ hb, Sha.words_set]
              obtain ⟨j, rfl⟩ : ∃ j, m = j + 16 := ⟨m - 16, by omega⟩
              rfl
            · rw [heap_setCell_other _ _ _ _ (by simp)]; exact hz
          case measure => simp [intOf]; omega
        · have hb : wr.heap[w.heap.size + 1]? = some (.cells (Sha.words (Sha.spread B)) 126 (0, 0)) := by rw [hb, show m = 64 by omega]; rfl
          clear hm hm0
          go_wp2_with (first | (with_reducible refine wpList_load_row rfl 126 _ rfl (w.heap.size + 1) (by kernel_rfl) 126 _ (0, 0) _ hb Tryd.underlying126 (by kernel_rfl) (info64 B) ?_) | (with_reducible refine wpList_store_rowTo rfl 126 _ _ rfl rfl w.heap.size (Sha.words (Sha.spread B)) (by kernel_rfl) (by kernel_rfl) 126 z hz (info64 B) (size64 hzs B) (Sha.words_one _) ?_))
          refine bodyPost_ret (results_cell_row rfl _ _ w.heap.size 126 (Sha.words (Sha.spread B)) (0, 0) _ (by kernel_rfl) (setRow_heap _ _ _ _ _ _ hz) Tryd.underlying126 rfl (info64 B)) rfl ⟨rfl, ?_⟩
          exact hbel.trans ⟨rfl, rfl, rfl, by simp, fun k hk => setRow_other _ _ _ _ (by omega)⟩
end Go.Proofs.YtpllcnpcplbobaaDoor
