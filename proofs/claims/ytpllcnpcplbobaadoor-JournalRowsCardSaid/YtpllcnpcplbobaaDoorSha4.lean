import Derived.Test.YtpllcnpcplbobaaDoorProg
import Derived.Test.YtpllcnpcplbobaaDoorShaPure2
import Derived.Test.YtpllcnpcplbobaaDoorBase
import Derived.Test.YtpllcnpcplbobaaDoorSha3
import Derived.Test.YtpllcnpcplbobaaDoorOwnM
import Derived.Laws.BytesArg
import Derived.Outline
import Derived.Deep.DeepCutAuto
import Derived.Deep.CutBlock
namespace Go.Proofs.YtpllcnpcplbobaaDoor
open Go.RowKit
theorem conv_open {w W : World} {A : Option Addr} {c g o : Nat} {R : List Int} (hA : AddrOk A g R.length o) (hc : ∀ i, i < R.length → w.cell? ⟨g, o + i, none⟩ = some (.int .u8 (Sha.nth R i))) (hW : ∀ p v, w.cell? p = some v → W.cell? p = some v) :
    (convert 54 9 (.slice A R.length c)).run Tryd.prog W = .ok (.string (strOfNums R)) W := by
  rcases hA with ⟨rfl, h0⟩ | ⟨o', rfl, ho⟩
  · obtain rfl : R = [] := List.eq_nil_of_length_eq_zero h0
    exact run_convert_bytes_nil W 54 5 Tryd.underlying54 Tryd.underlying5 0 c 9 Tryd.underlying9
  · refine run_convert_bytes_arg W 54 5 Tryd.underlying54 Tryd.underlying5 g o' R.length c R rfl (fun i hi => ?_) 9 Tryd.underlying9
    have := hc i hi
    rw [← ho (by omega)] at this
    exact hW _ _ this
theorem own_after (w : World) (a : Array Value) (ta : TypeId) (b : Array Value) (tb : TypeId) (R : List Int) (o : Obj) (hR : R.length < 64) :
    OwnM ((Lib.bytesWorld ((w.alloc (.cells a ta)).alloc (.cells b tb)) 5 (strOfNums R)).alloc o) (w.heap.size + 2) 5
      (.slice (some ⟨w.heap.size + 1 + 1, 0, none⟩) (strOfNums R).size (grownCap ((w.alloc (.cells a ta)).alloc (.cells b tb)) (strOfNums R).size 0 5)) (Lib.strCells (strOfNums R)) := by
  have h := (OwnM.bytes ((w.alloc (.cells a ta)).alloc (.cells b tb)) (w.heap.size + 2) 5 (strOfNums R) (by simp) (by rw [strOfNums_size]; simp only [maxLen]; omega)).alloc o
  simpa using h
theorem sum_first (w : World) (a : Array Value) (ta : TypeId) (b : Array Value) (tb : TypeId) (s : ByteArray) (o : Obj) (w1 : World)
    (h : ((Lib.bytesWorld ((w.alloc (.cells a ta)).alloc (.cells b tb)) 5 s).alloc o).grownBy w1 (some (w.heap.size + 1 + 1))) :
    w1.heap[w.heap.size]? = some (.cells a ta (0, 0)) ∧ w1.heap[w.heap.size + 1]? = some (.cells b tb (0, 0)) ∧ Below w.heap.size w w1 ∧ w.heap.size + 2 ≤ w1.heap.size := by
  have hs : ((Lib.bytesWorld ((w.alloc (.cells a ta)).alloc (.cells b tb)) 5 s).alloc o).heap.size = w.heap.size + 4 := by
    rw [World.size_alloc, Lib.bytesWorld_size]; simp
  have hold : ∀ k, k < w.heap.size + 2 → w1.heap[k]? = ((w.alloc (.cells a ta)).alloc (.cells b tb)).heap[k]? := fun k hk => by
    rw [h.block k (by omega) (by simp; omega), heap_alloc_old _ _ (by rw [Lib.bytesWorld_size]; simp; omega), Lib.bytesWorld_at_old _ _ _ _ (by simp; omega)]
  refine ⟨by rw [hold _ (by omega)]; exact heap_alloc2_old _ _ _, by rw [hold _ (by omega)]; exact heap_alloc2_new _ _ _, ?_, by have := h.size; omega⟩
  refine ⟨h.os, h.tape, h.output, by have := h.size; omega, fun k hk => ?_⟩
  rw [hold k (by omega), heap_alloc_old _ _ (by simp; omega), heap_alloc_old _ _ hk]
theorem strCells_strOfNums {R : List Int} (h : Sha.IsBytes R) : Lib.strCells (strOfNums R) = Sha.u8s R := by
  apply List.ext_getElem
  · rw [Lib.strCells_length, strOfNums_size, Sha.length_u8s]
  · intro i h1 h2
    have hi : i < R.length := by rw [Sha.length_u8s] at h2; exact h2
    have hb := h i
    have e : Sha.nth R i = R[i] := by simp [Sha.nth, hi]
    rw [e] at hb
    simp [Lib.strCells, Sha.u8s, strOfNums_data]
    omega
theorem row_kept {w wr : World} (o : Obj) (w' : World) {gt n cap : Nat} (hg : (wr.alloc o).grownBy w' (Value.slice (some ⟨gt, 0, none⟩) n cap).ownBlock) (hgt : w.heap.size + 2 ≤ gt) {z : Array Value} {zt : TypeId} {y : Array Value} {yt : TypeId}
    (hz : wr.heap[w.heap.size]? = some (.cells z zt (0, 0))) (hy : wr.heap[w.heap.size + 1]? = some (.cells y yt (0, 0))) (hb : Below w.heap.size w wr) :
    w'.heap[w.heap.size]? = some (.cells z zt (0, 0)) ∧ w'.heap[w.heap.size + 1]? = some (.cells y yt (0, 0)) ∧ Below w.heap.size w w' := by
  have h1 := (Array.getElem?_eq_some_iff.1 hz).1
  have h2 := (Array.getElem?_eq_some_iff.1 hy).1
  have hold : ∀ k, k < wr.heap.size → k ≠ gt → w'.heap[k]? = wr.heap[k]? := fun k hk hne => by
    rw [hg.block k (by simp; omega) (by simp [Value.ownBlock, hne]), heap_alloc_old _ _ hk]
  refine ⟨by rw [hold _ h1 (by omega)]; exact hz, by rw [hold _ h2 (by omega)]; exact hy, ?_⟩
  exact ⟨hg.os.trans hb.os, hg.tape.trans hb.tape, hg.output.trans hb.output, by have := hg.size; have := hb.size; simp at *; omega, fun k hk => by rw [hold k (by omega) (by omega)]; exact hb.block k hk⟩
theorem u8s_set (l : List Int) (i : Nat) (x : Int) : (Sha.u8s l).toArray.setIfInBounds i (.int .u8 x) = (Sha.u8s (l.set i x)).toArray := by
  simp [Sha.u8s, List.map_set]
theorem u8s_one (l : List Int) : (Sha.u8s l).toArray.all (·.oneCell') = true := by simp [Sha.u8s, Value.oneCell']
theorem info32 (V R : List Int) (n : Nat) : (Tryd.prog.info? 83).map (·.size) = some (Sha.u8s (Sha.final V R n)).toArray.size := by rw [List.size_toArray, Sha.length_u8s, Sha.length_final]; kernel_rfl
theorem size32 {z : Array Value} (h : z.size = 32) (V R : List Int) (n : Nat) : z.size = (Sha.u8s (Sha.final V R n)).toArray.size := by rw [h, List.size_toArray, Sha.length_u8s, Sha.length_final]
theorem two_new (w : World) (a : Array Value) (ta : TypeId) (b : Array Value) (tb : TypeId) : ∀ W, (w.alloc (.cells a ta)).alloc (.cells b tb) = W → W.heap[w.heap.size]? = some (.cells a ta (0, 0)) ∧ W.heap[w.heap.size + 1]? = some (.cells b tb (0, 0)) ∧ W.heap.size = w.heap.size + 2 ∧
    Below w.heap.size w W ∧ ∀ p v, w.cell? p = some v → W.cell? p = some v := by
  rintro W rfl
  exact ⟨heap_alloc2_old _ _ _, heap_alloc2_new _ _ _, by simp, ((Below.refl _ _).alloc (Nat.le_refl _) _).alloc (by simp) _, fun p v h => by
    have := World.block_lt_of_cell? w p h
    rw [World.cell?_alloc_lt _ _ _ (by simp; omega), World.cell?_alloc_lt _ _ _ this]; exact h⟩
set_option maxRecDepth 100000 in
set_option maxHeartbeats 1000000 in
theorem hsum_any (hb : Nat) (v0 v1 v2 v3 v4 v5 v6 v7 : Int) (R : List Int) (hR : R.length < 64) (n : Nat) (hn1 : n ≤ 281474976710656) (w : World) (hob : Sha.IsBytes R)
    (hH : HashAt w hb [v0, v1, v2, v3, v4, v5, v6, v7] R n) :
    Calls Tryd.prog 52 #[.pointer (some ⟨hb, 0, none⟩)] w fun e w' => e = .returned (.agg (Sha.u8s (Sha.final [v0, v1, v2, v3, v4, v5, v6, v7] R n)).toArray) ∧ Below w.heap.size w w' := by
  obtain ⟨A, c, g, o, hH, hRc, hA, hgb, hcl⟩ := hH
  have hlt : hb < w.heap.size := (Array.getElem?_eq_some_iff.1 hH).1
  have hcell : ∀ j v, (Sha.hashCells [v0, v1, v2, v3, v4, v5, v6, v7] (.slice A R.length c) (n : Int))[j]? = some v → w.cell? ⟨hb, j, none⟩ = some v := fun j v h => by rw [cell_of_row w _ _ _ _ _ hH]; exact h
  have c0 : w.cell? ⟨hb, 0, none⟩ = some (.int .u32 v0) := hcell 0 _ rfl
  have c1 : w.cell? ⟨hb, 1, none⟩ = some (.int .u32 v1) := hcell 1 _ rfl
  have c2 : w.cell? ⟨hb, 2, none⟩ = some (.int .u32 v2) := hcell 2 _ rfl
  have c3 : w.cell? ⟨hb, 3, none⟩ = some (.int .u32 v3) := hcell 3 _ rfl
  have c4 : w.cell? ⟨hb, 4, none⟩ = some (.int .u32 v4) := hcell 4 _ rfl
  have c5 : w.cell? ⟨hb, 5, none⟩ = some (.int .u32 v5) := hcell 5 _ rfl
  have c6 : w.cell? ⟨hb, 6, none⟩ = some (.int .u32 v6) := hcell 6 _ rfl
  have c7 : w.cell? ⟨hb, 7, none⟩ = some (.int .u32 v7) := hcell 7 _ rfl
  have c8 : w.cell? ⟨hb, 8, none⟩ = some (.slice A R.length c) := hcell 8 _ rfl
  have c9 : w.cell? ⟨hb, 9, none⟩ = some (.int .u64 n) := hcell 9 _ rfl
  have hconv : ∀ o1 o2, (convert 54 9 (.slice A R.length c)).run Tryd.prog ((w.alloc o1).alloc o2) = .ok (.string (strOfNums R)) ((w.alloc o1).alloc o2) := fun o1 o2 =>
    conv_open hA hcl (fun p v h => by
      have := World.block_lt_of_cell? w p h
      rw [World.cell?_alloc_lt _ _ _ (by simp; omega), World.cell?_alloc_lt _ _ _ this]; exact h)
  have kb := fun W => Lib.run_convert_string_bytes (P := Tryd.prog) W 9 54 5 (strOfNums R) Tryd.underlying9 Tryd.underlying54 Tryd.underlying5
  have hb1 : hb < w.heap.size + 1 := by omega
  obtain ⟨i0, hi, hz0, hz1, hz2⟩ := info_parts info5
  have HI := Lib.hid hi
  have HZ0 := Lib.hid hz0
  have HZ1 := Lib.hid hz1
  have HZ2 := Lib.hid hz2
  have HH := Lib.hid hH
  clear hcl hcell hH hi hz0 hz1 hz2 hA
  go_enter Tryd.func52, Tryd.ntmps52
  go_upto_region 4 with (fail)
  go_cut [2, 3, 4] (fun s2 s3 s4 wx => s2 = .pointer (some ⟨w.heap.size, 0, none⟩) ∧ s3 = .pointer (some ⟨w.heap.size + 1, 0, none⟩) ∧ (∃ z, wx.heap[w.heap.size]? = some (.cells z 83 (0, 0)) ∧ z.size = 32) ∧
      wx.heap[w.heap.size + 1]? = some (.cells (Sha.words [v0, v1, v2, v3, v4, v5, v6, v7]) 105 (0, 0)) ∧ OwnM wx (w.heap.size + 2) 5 s4 (Sha.u8s (R ++ [128])) ∧ Below w.heap.size w wx ∧ w.heap.size + 2 ≤ wx.heap.size)
  case first =>
    go_wp2_with (at_builtin; go_must (refine wpList_append_m _ rfl _ _ 54 rfl (w.heap.size + 2) 5 i0 (.int .u8 0) Tryd.underlying54 HI.out HZ0.out HZ1.out rfl _ (Lib.strCells (strOfNums R)) rfl (own_after _ _ _ _ _ _ _ hR) ⟨_, 0, none⟩ 1 (.int .u8 128) rfl (cell_new1 _ _ _) rfl ?h1 ?h2 ?h3 ?h4))
    case h1 => simp only [Lib.strCells_length, strOfNums_size, maxLen]; omega
    case h2 => simp only [Lib.strCells_length, strOfNums_size, HZ2.out]; omega
    case h3 => rw [World.size_alloc, Lib.bytesWorld_size]; simp
    intro v1 w1 hown1 hgrow1
    go_wp2
    go_meet
    obtain ⟨e1, e2, e3, e4⟩ := sum_first _ _ _ _ _ _ _ _ hgrow1
    refine ⟨rfl, rfl, ⟨_, e1, rfl⟩, e2, ?_, e3, e4⟩
    have e5 : Lib.strCells (strOfNums R) ++ [Value.int .u8 128] = Sha.u8s (R ++ [128]) := by rw [strCells_strOfNums hob]; simp [Sha.u8s]
    rw [← e5]
    exact hown1
  case rest =>
    obtain ⟨rfl, rfl, ⟨z, hz, hzs⟩, hb4, hown, hbel, hsz⟩ := hcut
    clear c0 c1 c2 c3 c4 c5 c6 c7 c8 hconv kb
    go_wp2_with fail
    go_loopg [4] (Sha.zs R.length) (fun gk v wr => ∃ m : Nat, gk + m = Sha.zs R.length ∧ OwnM wr (w.heap.size + 2) 5 v (Sha.u8s (Sha.pad0 R m)) ∧
        wr.heap[w.heap.size]? = some (.cells z 83 (0, 0)) ∧ wr.heap[w.heap.size + 1]? = some (.cells (Sha.words [v0, v1, v2, v3, v4, v5, v6, v7]) 105 (0, 0)) ∧ Below w.heap.size w wr)
    case atStart => exact ⟨0, rfl, by simpa [Sha.pad0] using hown, hz, hb4, hbel⟩
    case round =>
      clear hown hz hb4 hbel
      obtain ⟨m, hm, hown, hz, hb4, hbel⟩ := hrel
      obtain ⟨gt, cap, hv, hgt, hcap, hgts, htc⟩ := hown.cell
      rw [Sha.length_u8s, Sha.length_pad0] at hv hcap
      have HOWN := Lib.hid hown
      have HTC := Lib.hid htc
      have hsz2 := (Array.getElem?_eq_some_iff.1 hb4).1
      subst hv
      by_cases hlm : m < Sha.zs R.length
      · have ht1 := Sha.zs_not R.length m hlm
        have hzl := Sha.zs_lt R.length
        have ht : (((R.length : Int) + 1 + (m : Int)) % 64 != 56) = true := by rw [bne_iff_ne]; omega
        have HM := Lib.hid hm
        clear hown htc hm ht1
        go_wp2_with (at_builtin; go_must (refine wpList_append_m _ rfl _ _ 54 rfl (w.heap.size + 2) 5 i0 (.int .u8 0) Tryd.underlying54 HI.out HZ0.out HZ1.out rfl _ (Sha.u8s (Sha.pad0 R m)) rfl (HOWN.out.alloc _) ⟨_, 0, none⟩ 1 (.int .u8 0) rfl (cell_new1 _ _ _) rfl ?g1 ?g2 ?g3 ?g4))
        case g1 => rw [Sha.length_u8s, Sha.length_pad0]; simp only [maxLen]; omega
        case g2 => rw [Sha.length_u8s, Sha.length_pad0, HZ2.out]; omega
        case g3 => simp; omega
        intro v' w' hown' hgrow'
        have HO' := Lib.hid hown'
        have HG' := Lib.hid hgrow'
        clear hown' hgrow'
        go_wp2
        go_roundg (gk - 1)
        case measure => have := HM.out; omega
        case rel =>
          have hm := HM.out
          obtain ⟨e1, e2, e3⟩ := row_kept _ _ HG'.out (by omega) hz hb4 hbel
          exact ⟨m + 1, by omega, by rw [← Sha.pad0_succ]; exact HO'.out, e1, e2, e3⟩
      · have hmz : m = Sha.zs R.length := by omega
        have ht : (((R.length : Int) + 1 + (m : Int)) % 64 != 56) = false := by have := Sha.zs_end R.length; rw [← hmz] at this; simp; omega
        have hzl := Sha.zs_lt R.length
        have hm64 : m < 64 := by omega
        have HMZ := Lib.hid hmz
        clear hown htc hm hmz hzl
        obtain ⟨wo, rfl⟩ : ∃ wo : World, wo = wr := ⟨_, rfl⟩
        go_wp2_with fail
        go_loopw [4, 5] (fun v i wr => ∃ k : Nat, k ≤ 8 ∧ i = .int .i64 (56 - 8 * (k : Int)) ∧ OwnM wr (w.heap.size + 2) 5 v (Sha.u8s (Sha.pad0 R m ++ Sha.lenTo n k)) ∧
            wr.heap[w.heap.size]? = some (.cells z 83 (0, 0)) ∧ wr.heap[w.heap.size + 1]? = some (.cells (Sha.words [v0, v1, v2, v3, v4, v5, v6, v7]) 105 (0, 0)) ∧ Below w.heap.size w wr)
          (fun _ i _ => (intOf i + 8).toNat)
        case atStart => exact ⟨0, by omega, rfl, by simpa [Sha.lenTo] using HOWN.out, hz, hb4, hbel⟩
        case round =>
          clear hz hb4 hbel HOWN HTC hsz2 hgts
          obtain ⟨k, hk, rfl, hown, hz, hb4, hbel⟩ := hrel
          obtain ⟨gt2, cap2, hv, hgt2, hcap2, hgts2, htc⟩ := hown.cell
          rw [Sha.length_u8s, List.length_append, Sha.length_pad0, Sha.length_lenTo] at hv hcap2
          have HOWN := Lib.hid hown
          have HTC := Lib.hid htc
          have hsz2 := (Array.getElem?_eq_some_iff.1 hb4).1
          have HGT := Lib.hid hgts2
          subst hv
          have d9 : wr.cell? ⟨hb, 9, none⟩ = some (.int .u64 n) := (hbel.cell hlt).trans c9
          clear hown htc
          by_cases hlk : k < 8
          · go_wp2_with (at_builtin; go_must (refine wpList_append_m _ rfl _ _ 54 rfl (w.heap.size + 2) 5 i0 (.int .u8 0) Tryd.underlying54 HI.out HZ0.out HZ1.out rfl _ (Sha.u8s (Sha.pad0 R m ++ Sha.lenTo n k)) rfl (HOWN.out.alloc _) ⟨_, 0, none⟩ 1 (.int .u8 (Sha.lenByte n k)) rfl (cell_new1 _ _ _) rfl ?k1 ?k2 ?k3 ?k4))
            case k1 => rw [Sha.length_u8s, List.length_append, Sha.length_pad0, Sha.length_lenTo]; simp only [maxLen]; omega
            case k2 => rw [Sha.length_u8s, List.length_append, Sha.length_pad0, Sha.length_lenTo, HZ2.out]; omega
            case k3 => simp; omega
            intro v' w' hown' hgrow'
            have HO' := Lib.hid hown'
            have HG' := Lib.hid hgrow'
            clear hown' hgrow'
            go_wp2
            go_roundw
            case measure => simp [intOf]; omega
            case rel =>
              obtain ⟨e1, e2, e3⟩ := row_kept _ _ HG'.out (by omega) hz hb4 hbel
              refine ⟨k + 1, by omega, by go_num, ?_, e1, e2, e3⟩
              have := HO'.out
              rw [Sha.lenTo_succ, ← List.append_assoc]
              simpa [Sha.u8s] using this
          · have hk8 : k = 8 := by omega
            subst hk8
            obtain ⟨P, hP⟩ : ∃ P, P = Sha.pad0 R m ++ Sha.lenTo n 8 := ⟨_, rfl⟩
            obtain ⟨T, hT⟩ : ∃ T, T = R.length + 1 + m + 8 := ⟨_, rfl⟩
            have hPl : P.length = T := by rw [hP, hT, List.length_append, Sha.length_pad0, Sha.length_lenTo]
            have hPB : Sha.IsBytes P := by rw [hP]; exact Sha.isBytes_pad hob
            have hT64 : T % 64 = 0 := by have := Sha.zs_end R.length; rw [← HMZ.out] at this; omega
            have htc : ∀ i u, (Sha.u8s P)[i]? = some u → wr.cell? ⟨gt2, i, none⟩ = some u := by rw [hP]; exact HTC.out
            rw [← hT] at hcap2 ⊢
            have HP := Lib.hid hP
            have HT := Lib.hid hT
            have HPL := Lib.hid hPl
            have HPB := Lib.hid hPB
            have HT64 := Lib.hid hT64
            have HTC2 := Lib.hid htc
            have hTlt : T ≤ 200 := by omega
            clear hP hT hPl hPB hT64 htc d9 HOWN HTC hgts2
            obtain ⟨wp, rfl⟩ : ∃ wp : World, wp = wr := ⟨_, rfl⟩
            go_wp2_with fail
            go_loopg [4] (T / 64) (fun gk v wr => ∃ (j : Nat) (A : Option Addr) (c : Nat), gk + j = T / 64 ∧ v = .slice A (T - 64 * j) c ∧ T - 64 * j ≤ c ∧ AddrOk A gt2 (T - 64 * j) (64 * j) ∧
                (∀ i u, (Sha.u8s P)[i]? = some u → wr.cell? ⟨gt2, i, none⟩ = some u) ∧ gt2 < wr.heap.size ∧
                wr.heap[w.heap.size]? = some (.cells z 83 (0, 0)) ∧ wr.heap[w.heap.size + 1]? = some (.cells (Sha.words (Sha.blocks [v0, v1, v2, v3, v4, v5, v6, v7] P j)) 105 (0, 0)) ∧ Below w.heap.size w wr)
            case atStart => exact ⟨0, _, cap2, by omega, rfl, hcap2, .inr ⟨0, rfl, fun _ => rfl⟩, HTC2.out, HGT.out, hz, hb4, hbel⟩
            case round =>
              clear hz hb4 hbel HTC2 HGT
              obtain ⟨j, A, c, hj, rfl, hc, hA, htc, hgts, hz, hb4, hbel⟩ := hrel
              obtain ⟨q, hq⟩ : ∃ q, q = T - 64 * j := ⟨_, rfl⟩
              rw [← hq] at hc hA ⊢
              have HJ := Lib.hid hj
              have HQ := Lib.hid hq
              have HTC := Lib.hid htc
              by_cases hlq : 64 ≤ q
              · obtain rfl := hA.pos (by omega)
                obtain ⟨x0, x1, x2, x3, x4, x5, x6, x7, hV⟩ := Sha.list8 (show (Sha.blocks [v0, v1, v2, v3, v4, v5, v6, v7] P j).length = 8 by rw [Sha.length_blocks]; rfl)
                obtain ⟨A', hcut, hA'⟩ := cut64 gt2 (64 * j) q c hlq hc
                have hTk := take_any (w.heap.size + 1) gt2 (64 * j) c x0 x1 x2 x3 x4 x5 x6 x7 (P.drop (64 * j)) [] 105
                  (fun i _ => by rw [Sha.nth_drop]; exact HPB.out _) wr (by rw [hb4, hV]; simp [Sha.words]) (fun i hi => by rw [Sha.nth_drop]; exact htc _ _ (u8s_get _ _ (by rw [HPL.out]; omega)))
                rw [← hV] at hTk
                have HTk := Lib.hid hTk
                have HA' := Lib.hid hA'
                clear hj hq htc hV hTk hA hA'
                have hc64 : 64 ≤ c := by omega
                go_wp2_with (go_at_call 61; refine (HTk.out).mono ?_; rintro e w2 ⟨rfl, hb2, hg2⟩; have HB2 := Lib.hid hb2; have HG2 := Lib.hid hg2; clear hb2 hg2)
                go_roundg (gk - 1)
                case measure => have := HJ.out; have := HQ.out; omega
                case rel =>
                  have hj := HJ.out
                  have hq := HQ.out
                  have hg2 := HG2.out
                  have hold : ∀ k, k < wr.heap.size → k ≠ w.heap.size + 1 → w2.heap[k]? = wr.heap[k]? := fun k hk hne => hg2.block k hk (by simp [hne])
                  refine ⟨j + 1, A', c - 64, by omega, by rw [show T - 64 * (j + 1) = q - 64 by omega], by omega, by rw [show T - 64 * (j + 1) = q - 64 by omega]; exact HA'.out, fun i u hu => ?_, Nat.lt_of_lt_of_le hgts hg2.size, ?_, ?_, ?_⟩
                  · exact (World.cell?_of_block (hold gt2 hgts (by omega))).trans (HTC.out i u hu)
                  · rw [hold _ (Array.getElem?_eq_some_iff.1 hz).1 (by omega)]; exact hz
                  · rw [HB2.out]; simp [Sha.words, Sha.blocks]
                  · exact hbel.trans ⟨hg2.os, hg2.tape, hg2.output, hg2.size, fun k hk => hold k (by have := hbel.size; omega) (by omega)⟩
              · have hq0 : q ≤ 0 := by have := HT64.out; omega
                have hjT : j = T / 64 := by have := HT64.out; omega
                rw [hjT] at hb4
                obtain ⟨W, hW⟩ : ∃ W, W = Sha.blocks [v0, v1, v2, v3, v4, v5, v6, v7] P (T / 64) := ⟨_, rfl⟩
                rw [← hW] at hb4
                have HW := Lib.hid hW
                have HW8 := Lib.hid (show W.length = 8 by rw [hW, Sha.length_blocks]; rfl)
                have hszr := hbel.size
                clear hq hj hjT hW hA htc
                obtain ⟨wq, rfl⟩ : ∃ wq : World, wq = wr := ⟨_, rfl⟩
                go_wp2_with fail
                have hsd : w.heap.size + 1 < wq.heap.size := (Array.getElem?_eq_some_iff.1 hb4).1
                go_loopw [54] (fun i wr => ∃ k : Nat, k ≤ 32 ∧ i = .int .i64 k ∧ wr.heap[wq.heap.size]? = some (.cells (Sha.u8s (Sha.digestTo W k)).toArray 83 (0, 0)) ∧
                    wr.heap[w.heap.size]? = some (.cells z 83 (0, 0)) ∧ wr.heap[w.heap.size + 1]? = some (.cells (Sha.words W) 105 (0, 0)) ∧ Below w.heap.size w wr)
                  (fun i _ => 32 - (intOf i).toNat)
                case atStart =>
                  exact ⟨0, by omega, rfl, heap_alloc_new _ _, by rw [heap_alloc_old _ _ (by omega)]; exact hz, by rw [heap_alloc_old _ _ (by omega)]; exact hb4, hbel.alloc (by omega) _⟩
                case round =>
                  clear hz hb4 hbel
                  obtain ⟨k, hk, rfl, hd, hz, hb4, hbel⟩ := hrel
                  by_cases hlk : k < 32
                  · have hcw : wr.cell? ⟨w.heap.size + 1, k / 4, none⟩ = some (.int .u32 (Sha.nth W (k / 4))) := by
                      rw [cell_of_row wr _ _ _ _ _ hb4]; exact Sha.words_get _ _ (by rw [HW8.out]; omega)
                    have hdl := Sha.length_digestTo W k
                    have hcd : wr.cell? ⟨wq.heap.size, k, none⟩ = some (.int .u8 (Sha.nth (Sha.digestTo W k) k)) := by
                      rw [cell_of_row wr _ _ _ _ _ hd]; simpa using u8s_get _ _ (by rw [hdl]; omega)
                    have hfd : wr.frozen? ⟨wq.heap.size, k, none⟩ = false := frozen_of_row wr _ _ _ _ hd
                    have HDL := Lib.hid hdl
                    clear hdl
                    go_wp2
                    go_roundw
                    case measure => simp [intOf]; omega
                    case rel =>
                      have hzlt := (Array.getElem?_eq_some_iff.1 hz).1
                      refine ⟨k + 1, by omega, by go_num, ?_, ?_, ?_, hbel.setCell (by simp; omega) _⟩
                      · rw [heap_setCell_same wr _ _ _ _ _ hd, u8s_set]; rfl
                      · rw [heap_setCell_other wr _ _ _ (by simp; omega)]; exact hz
                      · rw [heap_setCell_other wr _ _ _ (by simp; omega)]; exact hb4
                  · have hk32 : k = 32 := by omega
                    have hd : wr.heap[wq.heap.size]? = some (.cells (Sha.u8s (Sha.final [v0, v1, v2, v3, v4, v5, v6, v7] R n)).toArray 83 (0, 0)) := by
                      rw [hd, hk32, HW.out, HP.out, HT.out, HMZ.out]
                      simp [Sha.final, Sha.length_pad0, Sha.length_lenTo]
                    clear hk32
                    go_wp2_with (first | (with_reducible refine wpList_load_row rfl 83 _ rfl wq.heap.size (by kernel_rfl) 83 _ (0, 0) _ hd Tryd.underlying83 (by kernel_rfl) (info32 _ _ _) ?_) | (with_reducible refine wpList_store_rowTo rfl 83 _ _ rfl rfl w.heap.size (Sha.u8s (Sha.final [v0, v1, v2, v3, v4, v5, v6, v7] R n)).toArray (by kernel_rfl) (by kernel_rfl) 83 z hz (info32 _ _ _) (size32 hzs _ _ _) (u8s_one _) ?_))
                    refine bodyPost_ret (results_cell_row rfl _ _ w.heap.size 83 (Sha.u8s (Sha.final [v0, v1, v2, v3, v4, v5, v6, v7] R n)).toArray (0, 0) _ (by kernel_rfl) (setRow_heap _ _ _ _ _ _ hz) Tryd.underlying83 rfl (info32 _ _ _)) rfl ⟨rfl, ?_⟩
                    exact below_setRow hbel (Nat.le_refl _) _
end Go.Proofs.YtpllcnpcplbobaaDoor
