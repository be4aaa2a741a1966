import Derived.Test.YtpllcnpcplbobaaDoorProg
import Derived.Test.YtpllcnpcplbobaaDoorShaPure
import Derived.Test.YtpllcnpcplbobaaDoorBase
import Derived.Test.YtpllcnpcplbobaaDoorSha1
import Derived.Deep.RegionWith
import Derived.Outline
import Derived.Deep.DeepCutAuto
import Derived.Deep.CutBlock
import Derived.WalkKit
import Derived.KernelRfl
import Derived.BigQuiet
import Derived.BigRegion
import Derived.RegionTactic
import Derived.ChangeAlike
import Derived.Deep.QuietTactic
import Derived.Deep.LoopGhost
import Derived.Great.BuildSlice
import Derived.Deep.DeepMust
import Derived.Lib.Hide
import Derived.OwnWalk
namespace Go.Proofs.YtpllcnpcplbobaaDoor
open Go.RowKit

theorem size_words8 {V V' : List Int} (h : V.length = 8) (h' : V'.length = 8) : (Sha.words V).size = (Sha.words V').size := by rw [Sha.size_words, Sha.size_words, h, h']
theorem info8 {W S : List Int} (h : Hid (∀ k, (Sha.roundsTo W S k).length = 8)) (k : Nat) : (Tryd.prog.info? 105).map (·.size) = some (Sha.words (Sha.roundsTo W S k)).size := by rw [Sha.size_words, h.out]; kernel_rfl
theorem index_words (t : TypeId) (n : Nat) (e : TypeId) (ht : Tryd.prog.underlying t = some (.array n e)) (he : (Tryd.prog.info? e).map (·.size) = some 1) (hag : ∀ w, (isAgg e).run Tryd.prog w = .ok false w) (l : List Int) (hl : l.length = n) (k : Nat) (hk : k < n) (w : World) :
    (Instr.index t (.agg (Sha.words l)) (.int .i64 k)).run Tryd.prog w = .ok (.int .u32 (Sha.nth l k)) w := by
  have hg := Sha.words_get l k (by omega)
  cases hi : Tryd.prog.info? e with
  | none => simp [hi] at he
  | some i =>
    have h1 : i.size = 1 := by simpa [hi] using he
    simp [Instr.index, asIntOf, run_underlying ht, hk, sizeOf, typeInfo, hi, h1, part, hag, hg]
theorem storeKS (l : List Int) (hl : l.length = 64) (W : World) (g : Nat) (z : Array Value) (t : TypeId) (hz : W.heap[g]? = some (.cells z t (0, 0))) (hs : z.size = 64) :
    (storeCells ⟨g, 0, none⟩ (Sha.words l).toList).run Tryd.prog W = .ok () (W.setRow g (Sha.words l)) := by
  have h := run_storeCells_from (P := Tryd.prog) g t (Sha.words l).toList 0 z W hz (by simp [Sha.words, hs, hl]) (fun v hv => by
    have := (Array.all_eq_true_iff_forall_mem.1 (Sha.words_one l)) v (by simpa using hv); simpa using this)
  simpa using h
theorem setRow_alloc_old (w : World) (g : Nat) (o : Obj) (cs : Array Value) (h : g < w.heap.size) : (w.alloc o).setRow g cs = (w.setRow g cs).alloc o := by
  have h1 : (w.heap.push o).modify g (fun | .cells _ elem frozen => .cells cs elem frozen | o => o) = (w.heap.modify g (fun | .cells _ elem frozen => .cells cs elem frozen | o => o)).push o := by
    apply Array.ext
    · simp
    · intro i h1 h2
      simp only [Array.getElem_modify, Array.getElem_push, Array.size_modify]
      by_cases hi : i < w.heap.size
      · simp [hi]
      · simp [hi, show ¬ g = i by omega]
  exact congrArg (fun x => ({ w with heap := x } : World)) h1
def Z64 : Array Value := #[.int .u32 0, .int .u32 0, .int .u32 0, .int .u32 0, .int .u32 0, .int .u32 0, .int .u32 0, .int .u32 0, .int .u32 0, .int .u32 0, .int .u32 0, .int .u32 0, .int .u32 0, .int .u32 0, .int .u32 0, .int .u32 0, .int .u32 0, .int .u32 0, .int .u32 0, .int .u32 0, .int .u32 0, .int .u32 0, .int .u32 0, .int .u32 0, .int .u32 0, .int .u32 0, .int .u32 0, .int .u32 0, .int .u32 0, .int .u32 0, .int .u32 0, .int .u32 0, .int .u32 0, .int .u32 0, .int .u32 0, .int .u32 0, .int .u32 0, .int .u32 0, .int .u32 0, .int .u32 0, .int .u32 0, .int .u32 0, .int .u32 0, .int .u32 0, .int .u32 0, .int .u32 0, .int .u32 0, .int .u32 0, .int .u32 0, .int .u32 0, .int .u32 0, .int .u32 0, .int .u32 0, .int .u32 0, .int .u32 0, .int .u32 0, .int .u32 0, .int .u32 0, .int .u32 0, .int .u32 0, .int .u32 0, .int .u32 0, .int .u32 0, .int .u32 0]
theorem setRow_drew (w : World) (g : Nat) (cs : Array Value) : w.drew.setRow g cs = (w.setRow g cs).drew := rfl
theorem store64_0 (l : List Int) (hl : l.length = 64) (W : World) (A B : Obj) : (storeCells ⟨W.heap.size, 0, none⟩ (Sha.words l).toList).run Tryd.prog (((W.alloc (.cells Z64 126)).alloc A).alloc B).drew = .ok () (((W.alloc (.cells (Sha.words l) 126)).alloc A).alloc B).drew := by
  rw [storeKS l hl _ W.heap.size Z64 126 (by rw [heap_drew, heap_alloc_old _ _ (by simp; omega), heap_alloc_old _ _ (by simp), heap_alloc_new]) rfl,
    setRow_drew, setRow_alloc_old _ _ _ _ (by simp; omega), setRow_alloc_old _ _ _ _ (by simp), setRow_alloc]
theorem store64_1 (l : List Int) (hl : l.length = 64) (W : World) (A B : Obj) : (storeCells ⟨W.heap.size + 1, 0, none⟩ (Sha.words l).toList).run Tryd.prog (((W.alloc A).alloc (.cells Z64 126)).alloc B).drew = .ok () (((W.alloc A).alloc (.cells (Sha.words l) 126)).alloc B).drew := by
  have e : W.heap.size + 1 = (W.alloc A).heap.size := by simp
  rw [e, storeKS l hl _ (W.alloc A).heap.size Z64 126 (by rw [heap_drew, heap_alloc_old _ _ (by simp), heap_alloc_new]) rfl,
    setRow_drew, setRow_alloc_old _ _ _ _ (by simp), setRow_alloc]
theorem store64_2 (l : List Int) (hl : l.length = 64) (W : World) (A B : Obj) : (storeCells ⟨W.heap.size + 1 + 1, 0, none⟩ (Sha.words l).toList).run Tryd.prog (((W.alloc A).alloc B).alloc (.cells Z64 126)).drew = .ok () (((W.alloc A).alloc B).alloc (.cells (Sha.words l) 126)).drew := by
  have e : W.heap.size + 1 + 1 = ((W.alloc A).alloc B).heap.size := by simp
  rw [e, storeKS l hl _ ((W.alloc A).alloc B).heap.size Z64 126 (by rw [heap_drew, heap_alloc_new]) rfl, setRow_drew, setRow_alloc]
theorem heap3_0 (w : World) (A B C : Obj) : (((w.alloc A).alloc B).alloc C).drew.heap[w.heap.size]? = some A := by
  rw [heap_drew, heap_alloc_old _ _ (by simp; omega), heap_alloc_old _ _ (by simp), heap_alloc_new]
theorem heap3_1 (w : World) (A B C : Obj) : (((w.alloc A).alloc B).alloc C).drew.heap[w.heap.size + 1]? = some B := by
  have e : w.heap.size + 1 = (w.alloc A).heap.size := by simp
  rw [e, heap_drew, heap_alloc_old _ _ (by simp), heap_alloc_new]
theorem heap3_2 (w : World) (A B C : Obj) : (((w.alloc A).alloc B).alloc C).drew.heap[w.heap.size + 1 + 1]? = some C := by
  have e : w.heap.size + 1 + 1 = ((w.alloc A).alloc B).heap.size := by simp
  rw [e, heap_drew, heap_alloc_new]
theorem below3 (w : World) (A B C : Obj) : Below w.heap.size w (((w.alloc A).alloc B).alloc C).drew :=
  ((((Below.refl _ _).alloc (Nat.le_refl _) _).alloc (by simp) _).alloc (by simp; omega) _).drew
set_option maxRecDepth 100000 in
set_option maxHeartbeats 1000000 in
theorem take_any (sb bk off cap : Nat) (v0 v1 v2 v3 v4 v5 v6 v7 : Int) (B : List Int) (rest : List Value) (T : TypeId) (hr : ∀ j, j < 64 → 0 ≤ Sha.nth B j ∧ Sha.nth B j < 256) (w : World)
    (hs : w.heap[sb]? = some (.cells (([v0, v1, v2, v3, v4, v5, v6, v7] : List Int).map (Value.int .u32) ++ rest).toArray T (0, 0)))
    (hc : ∀ j, j < 64 → w.cell? ⟨bk, off + j, none⟩ = some (.int .u8 (Sha.nth B j))) :
    Calls Tryd.prog 61 #[.pointer (some ⟨sb, 0, none⟩), .slice (some ⟨bk, off, none⟩) 64 cap] w fun e w' => e = .returned (.tuple #[]) ∧
      w'.heap[sb]? = some (.cells ((Sha.block [v0, v1, v2, v3, v4, v5, v6, v7] B).map (Value.int .u32) ++ rest).toArray T (0, 0)) ∧ w.grownBy w' (some sb) := by
  have hsb : sb < w.heap.size := (Array.getElem?_eq_some_iff.1 hs).1
  have hbk : bk < w.heap.size := block_lt_of_cell (hc 0 (by omega))
  have c0 : w.cell? ⟨sb, 0, none⟩ = some (.int .u32 v0) := by rw [cell_of_row w _ _ _ _ _ hs]; simp
  have c1 : w.cell? ⟨sb, 1, none⟩ = some (.int .u32 v1) := by rw [cell_of_row w _ _ _ _ _ hs]; simp
  have c2 : w.cell? ⟨sb, 2, none⟩ = some (.int .u32 v2) := by rw [cell_of_row w _ _ _ _ _ hs]; simp
  have c3 : w.cell? ⟨sb, 3, none⟩ = some (.int .u32 v3) := by rw [cell_of_row w _ _ _ _ _ hs]; simp
  have c4 : w.cell? ⟨sb, 4, none⟩ = some (.int .u32 v4) := by rw [cell_of_row w _ _ _ _ _ hs]; simp
  have c5 : w.cell? ⟨sb, 5, none⟩ = some (.int .u32 v5) := by rw [cell_of_row w _ _ _ _ _ hs]; simp
  have c6 : w.cell? ⟨sb, 6, none⟩ = some (.int .u32 v6) := by rw [cell_of_row w _ _ _ _ _ hs]; simp
  have c7 : w.cell? ⟨sb, 7, none⟩ = some (.int .u32 v7) := by rw [cell_of_row w _ _ _ _ _ hs]; simp
  have HS := Lib.hid hs
  have HC := Lib.hid hc
  have HR := Lib.hid hr
  clear hs hc hr
  go_enter Tryd.func61, Tryd.ntmps61
  go_upto_region 0 with (fail)
  go_cut [4, 5] (fun s4 s5 wx => ∃ a4 a5 : Nat, s4 = .pointer (some ⟨a4, 0, none⟩) ∧ s5 = .pointer (some ⟨a5, 0, none⟩) ∧ a4 ≠ a5 ∧ w.heap.size ≤ a4 ∧ w.heap.size ≤ a5 ∧
      wx.heap[a4]? = some (.cells (Sha.words [v0, v1, v2, v3, v4, v5, v6, v7]) 105 (0, 0)) ∧ wx.heap[a5]? = some (.cells (Sha.words Sha.KS) 126 (0, 0)) ∧ Below w.heap.size w wx)
  case first =>
    have hs1 : sb < w.heap.size + 1 := by omega
    have hs2 : sb < w.heap.size + 1 + 1 := by omega
    have z0 := store64_0 Sha.KS rfl w
    have z1 := store64_1 Sha.KS rfl w
    have z2 := store64_2 Sha.KS rfl w
    unfold Z64 at z0 z1 z2
    go_region_with (first | (go_at_call 77; refine (constants_any _).mono ?_; rintro e w1 ⟨rfl, rfl⟩))
    clear c0 c1 c2 c3 c4 c5 c6 c7 z0 z1 z2
    all_goals go_wp2_with fail
    all_goals go_meet
    all_goals exact ⟨_, _, rfl, rfl, by omega, by omega, by omega, by first | exact heap3_0 _ _ _ _ | exact heap3_1 _ _ _ _ | exact heap3_2 _ _ _ _, by first | exact heap3_0 _ _ _ _ | exact heap3_1 _ _ _ _ | exact heap3_2 _ _ _ _, below3 _ _ _ _⟩
  case rest =>
    obtain ⟨a4, a5, rfl, rfl, hne, h4, h5, hb4, hb5, hbel⟩ := hcut
    clear c0 c1 c2 c3 c4 c5 c6 c7
    have hsz4 : a4 < wc.heap.size := (Array.getElem?_eq_some_iff.1 hb4).1
    have hsz5 : a5 < wc.heap.size := (Array.getElem?_eq_some_iff.1 hb5).1
    go_wp2_with (go_at_call 78; refine (spread_any bk off cap B HR.out _ (fun j hj => (hbel.cell hbk).trans (HC.out j hj))).mono ?_; rintro e w1 ⟨rfl, hb1⟩)
    have hlen : ∀ k, (Sha.roundsTo (Sha.spread B) [v0, v1, v2, v3, v4, v5, v6, v7] k).length = 8 := Sha.length_roundsTo _ _ rfl
    have hb14 := (hb1.block a4 hsz4).trans hb4
    have hb15 := (hb1.block a5 hsz5).trans hb5
    have hbel1 := hbel.trans (hb1.mono hbel.size)
    clear hb1 hb4 hb5 hbel hsz4 hsz5
    have HL := Lib.hid hlen
    clear hlen
    go_loopw [20] (fun i wr => ∃ k : Nat, k ≤ 64 ∧ i = .int .i64 k ∧ wr.heap[a4]? = some (.cells (Sha.words (Sha.roundsTo (Sha.spread B) [v0, v1, v2, v3, v4, v5, v6, v7] k)) 105 (0, 0)) ∧
        wr.heap[a5]? = some (.cells (Sha.words Sha.KS) 126 (0, 0)) ∧ Below w.heap.size w wr)
      (fun i _ => 64 - (intOf i).toNat)
    case atStart => exact ⟨0, by omega, rfl, hb14, hb15, hbel1⟩
    case round =>
      clear hb14 hb15 hbel1
      obtain ⟨k, hk, rfl, hb4, hb5, hbel⟩ := hrel
      obtain ⟨V, hV⟩ : ∃ V, V = Sha.roundsTo (Sha.spread B) [v0, v1, v2, v3, v4, v5, v6, v7] k := ⟨_, rfl⟩
      by_cases hlt : k < 64
      · have hl8 : V.length = 8 := by rw [hV]; exact HL.out k
        rw [← hV] at hb4
        have hcw : ∀ j, j < 8 → wr.cell? ⟨a4, j, none⟩ = some (.int .u32 (Sha.nth V j)) := fun j hj => by
          rw [cell_of_row wr _ _ _ _ _ hb4]; exact Sha.words_get _ _ (by omega)
        have d0 := hcw 0 (by omega)
        have d1 := hcw 1 (by omega)
        have d2 := hcw 2 (by omega)
        have d3 := hcw 3 (by omega)
        have d4 := hcw 4 (by omega)
        have d5 := hcw 5 (by omega)
        have d6 := hcw 6 (by omega)
        have d7 := hcw 7 (by omega)
        have dk : wr.cell? ⟨a5, k, none⟩ = some (.int .u32 (Sha.nth Sha.KS k)) := by
          rw [cell_of_row wr _ _ _ _ _ hb5]; exact Sha.words_get _ _ (by simpa [Sha.KS] using hlt)
        have di : ∀ W, (Instr.index 126 (.agg (Sha.words (Sha.spread B))) (.int .i64 k)).run Tryd.prog W = .ok (.int .u32 (Sha.nth (Sha.spread B) k)) W :=
          index_words 126 64 103 Tryd.underlying126 (by kernel_rfl) (fun _ => by kernel_rfl) _ (Sha.length_spreadTo B 48) k hlt
        have HV := Lib.hid hV
        have HL8 := Lib.hid hl8
        clear hcw hl8 hV
        go_wp2_with fail
        go_quiet (fail)
        go_wp2_with fail
        go_quiet ((go_at_call 79; exact quiet_add_left (turned_any _ (by decide) _ _)))
        go_wp2_with fail
        go_quiet ((go_at_call 79; exact quiet_add_left (turned_any _ (by decide) _ _)))
        go_wp2_with (with_reducible refine wpList_store_rowTo rfl 105 _ _ rfl rfl a4 (Sha.words (Sha.round (Sha.spread B) V k)) (by kernel_rfl) (by kernel_rfl) 105 _ (heap_at_drewN hb4 _) (by kernel_rfl) (size_words8 HL8.out rfl) (Sha.words_one _) ?_)
        go_roundw
        case rel =>
          refine ⟨k + 1, by omega, by go_num, ?_, ?_, below_setRow (below_drewN hbel _) h4 _⟩
          · rw [setRow_heap _ _ _ _ _ _ (heap_at_drewN hb4 _), HV.out]; rfl
          · rw [setRow_other _ _ _ _ (Ne.symm hne)]; exact hb5
        case measure => simp [intOf]; omega
      · have hk64 : k = 64 := by omega
        have hb4 : wr.heap[a4]? = some (.cells (Sha.words (Sha.roundsTo (Sha.spread B) [v0, v1, v2, v3, v4, v5, v6, v7] 64)) 105 (0, 0)) := by rw [hb4, hk64]
        have hW : wr.heap[sb]? = some (.cells (([v0, v1, v2, v3, v4, v5, v6, v7] : List Int).map (Value.int .u32) ++ rest).toArray T (0, 0)) := (hbel.block sb hsb).trans HS.out
        clear hk64 hb5 hV V
        go_wp2_with (with_reducible refine wpList_load_row rfl 105 _ rfl a4 (by kernel_rfl) 105 _ (0, 0) _ hb4 Tryd.underlying105 (by kernel_rfl) (info8 HL 64) ?_)
        have hgr := only_of_below hbel (some sb)
        obtain ⟨V, hV⟩ : ∃ V, V = Sha.roundsTo (Sha.spread B) [v0, v1, v2, v3, v4, v5, v6, v7] 64 := ⟨_, rfl⟩
        have hl8 : V.length = 8 := by rw [hV]; exact HL.out 64
        rw [← hV]
        have HV := Lib.hid hV
        have HL8 := Lib.hid hl8
        obtain ⟨S, hS⟩ : ∃ S : List Int, S = [v0, v1, v2, v3, v4, v5, v6, v7] := ⟨_, rfl⟩
        rw [← hS] at hW
        have HS8 := Lib.hid hS
        clear hb4 hbel hV hl8 hS
        obtain ⟨wo, rfl⟩ : ∃ wo : World, wo = wr := ⟨_, rfl⟩
        go_loopw [100] (fun i wr => ∃ m : Nat, m ≤ 8 ∧ i = .int .i64 m ∧ wr.heap[sb]? = some (.cells ((Sha.mixTo S V m).map (Value.int .u32) ++ rest).toArray T (0, 0)) ∧ w.grownBy wr (some sb))
          (fun i _ => 8 - (intOf i).toNat)
        case atStart => exact ⟨0, by omega, rfl, hW, hgr⟩
        case round =>
          clear hW hgr
          obtain ⟨m, hm, rfl, hb, hg⟩ := hrel
          by_cases hlm : m < 8
          · have hlS : (Sha.mixTo S V m).length = 8 := by rw [Sha.length_mixTo, HS8.out]; rfl
            have hcx : wr.cell? ⟨sb, m, none⟩ = some (.int .u32 (Sha.nth (Sha.mixTo S V m) m)) := by
              rw [cell_of_row wr _ _ _ _ _ hb]
              simp [Sha.nth, List.getElem?_append_left, hlS, hlm]
            have hfz : wr.frozen? ⟨sb, m, none⟩ = false := frozen_of_row wr _ _ _ _ hb
            have di : ∀ W, (Instr.index 105 (.agg (Sha.words V)) (.int .i64 m)).run Tryd.prog W = .ok (.int .u32 (Sha.nth V m)) W :=
              index_words 105 8 103 Tryd.underlying105 (by kernel_rfl) (fun _ => by kernel_rfl) _ HL8.out m hlm
            have HlS := Lib.hid hlS
            clear hlS
            go_wp2_with fail
            go_region
            go_wp2
            go_roundw
            case rel =>
              refine ⟨m + 1, by omega, by go_num, ?_, only_drew (only_setCell hg (.inl rfl) _)⟩
              rw [heap_drew, heap_setCell_same wr _ _ _ _ _ hb, Sha.set_app _ _ _ _ (by rw [HlS.out]; exact hlm)]
              rfl
            case measure => simp [intOf]; omega
          · go_wp2
            go_end0
            refine ⟨rfl, ?_, hg⟩
            rw [hb, show m = 8 by omega, HV.out, HS8.out]
            rfl
end Go.Proofs.YtpllcnpcplbobaaDoor
