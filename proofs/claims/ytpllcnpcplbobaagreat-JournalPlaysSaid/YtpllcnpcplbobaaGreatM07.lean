import Derived.Test.YtpllcnpcplbobaaGreatProg
import Derived.Test.YtpllcnpcplbobaaGreatM02
import Derived.Test.YtpllcnpcplbobaaGreatM00
import Derived.Test.YtpllcnpcplbobaaGreatM05
import Derived.Test.YtpllcnpcplbobaaGreatM06
import Derived.Laws.BytesArg
import Derived.Outline
import Derived.Deep.DeepCutAuto
import Derived.Deep.CutBlock
import Derived.LoopN
section
namespace Go.Proofs.YtpllcnpcplbobaaGreat
open Go.RowKit
theorem conv_open {w W : World} {A : Option Addr} {c g o : Nat} {R : List Int} (hA : AddrOk A g R.length o) (hc : ∀ i, i < R.length → w.cell? ⟨g, o + i, none⟩ = some (.int .u8 (Sha.nth R i))) (hW : ∀ p v, w.cell? p = some v → W.cell? p = some v) :
    (convert 75 9 (.slice A R.length c)).run Tryz.prog W = .ok (.string (strOfNums R)) W := by
  rcases hA with ⟨rfl, h0⟩ | ⟨o', rfl, ho⟩
  · obtain rfl : R = [] := List.eq_nil_of_length_eq_zero h0
    exact run_convert_bytes_nil W 75 5 Tryz.underlying75 Tryz.underlying5 0 c 9 Tryz.underlying9
  · refine run_convert_bytes_arg W 75 5 Tryz.underlying75 Tryz.underlying5 g o' R.length c R rfl (fun i hi => ?_) 9 Tryz.underlying9
    have := hc i hi
    rw [← ho (by omega)] at this
    exact hW _ _ this
theorem own_after (w : World) (a : Array Value) (ta : TypeId) (b : Array Value) (tb : TypeId) (R : List Int) (o : Obj) (hR : R.length < 64) :
    OwnM ((Lib.bytesWorld ((w.alloc (.cells a ta)).alloc (.cells b tb)) 5 (strOfNums R)).alloc o) (w.heap.size + 2) 5
      (.slice (some ⟨w.heap.size + 1 + 1, 0, none⟩) (strOfNums R).size (grownCap ((w.alloc (.cells a ta)).alloc (.cells b tb)) (strOfNums R).size 0 5)) (Lib.strCells (strOfNums R)) := by
  have h := (OwnM.bytes ((w.alloc (.cells a ta)).alloc (.cells b tb)) (w.heap.size + 2) 5 (strOfNums R) (by simp) (by rw [strOfNums_size]; simp only [maxLen]; omega)).alloc o
  simpa using h
theorem sum_first (w : World) (a : Array Value) (ta : TypeId) (b : Array Value) (tb : TypeId) (s : ByteArray) (o : Obj) (w1 : World)
    (h : ((Lib.bytesWorld ((w.alloc (.cells a ta)).alloc (.cells b tb)) 5 s).alloc o).grownBy w1 (some (w.heap.size + 1 + 1))) :
    w1.heap[w.heap.size]? = some (.cells a ta (0, 0)) ∧ w1.heap[w.heap.size + 1]? = some (.cells b tb (0, 0)) ∧ Below w.heap.size w w1 ∧ w.heap.size + 2 ≤ w1.heap.size := by
  have hs : ((Lib.bytesWorld ((w.alloc (.cells a ta)).alloc (.cells b tb)) 5 s).alloc o).heap.size = w.heap.size + 4 := by
    rw [World.size_alloc, Lib.bytesWorld_size]; simp
  have hold : ∀ k, k < w.heap.size + 2 → w1.heap[k]? = ((w.alloc (.cells a ta)).alloc (.cells b tb)).heap[k]? := fun k hk => by
    rw [h.block k (by omega) (by simp; omega), heap_alloc_old _ _ (by rw [Lib.bytesWorld_size]; simp; omega), Lib.bytesWorld_at_old _ _ _ _ (by simp; omega)]
  refine ⟨by rw [hold _ (by omega)]; exact heap_alloc2_old _ _ _, by rw [hold _ (by omega)]; exact heap_alloc2_new _ _ _, ?_, by have := h.size; omega⟩
  refine ⟨h.os, h.tape, h.output, by have := h.size; omega, fun k hk => ?_⟩
  rw [hold k (by omega), heap_alloc_old _ _ (by simp; omega), heap_alloc_old _ _ hk]
theorem strCells_strOfNums {R : List Int} (h : Sha.IsBytes R) : Lib.strCells (strOfNums R) = Sha.u8s R := by
  apply List.ext_getElem
  · rw [Lib.strCells_length, strOfNums_size, Sha.length_u8s]
  · intro i h1 h2
    have hi : i < R.length := by rw [Sha.length_u8s] at h2; exact h2
    have hb := h i
    have e : Sha.nth R i = R[i] := by simp [Sha.nth, hi]
    rw [e] at hb
    simp [Lib.strCells, Sha.u8s, strOfNums_data]
    omega
theorem row_kept {w wr : World} (o : Obj) (w' : World) {gt n cap : Nat} (hg : (wr.alloc o).grownBy w' (Value.slice (some ⟨gt, 0, none⟩) n cap).ownBlock) (hgt : w.heap.size + 2 ≤ gt) {z : Array Value} {zt : TypeId} {y : Array Value} {yt : TypeId}
    (hz : wr.heap[w.heap.size]? = some (.cells z zt (0, 0))) (hy : wr.heap[w.heap.size + 1]? = some (.cells y yt (0, 0))) (hb : Below w.heap.size w wr) :
    w'.heap[w.heap.size]? = some (.cells z zt (0, 0)) ∧ w'.heap[w.heap.size + 1]? = some (.cells y yt (0, 0)) ∧ Below w.heap.size w w' := by
  have h1 := (Array.getElem?_eq_some_iff.1 hz).1
  have h2 := (Array.getElem?_eq_some_iff.1 hy).1
  have hold : ∀ k, k < wr.heap.size → k ≠ gt → w'.heap[k]? = wr.heap[k]? := fun k hk hne => by
    rw [hg.block k (by simp; omega) (by simp [Value.ownBlock, hne]), heap_alloc_old _ _ hk]
  refine ⟨by rw [hold _ h1 (by omega)]; exact hz, by rw [hold _ h2 (by omega)]; exact hy, ?_⟩
  exact ⟨hg.os.trans hb.os, hg.tape.trans hb.tape, hg.output.trans hb.output, by have := hg.size; have := hb.size; simp at *; omega, fun k hk => by rw [hold k (by omega) (by omega)]; exact hb.block k hk⟩
theorem u8s_set (l : List Int) (i : Nat) (x : Int) : (Sha.u8s l).toArray.setIfInBounds i (.int .u8 x) = (Sha.u8s (l.set i x)).toArray := by
  simp [Sha.u8s, List.map_set]
theorem u8s_one (l : List Int) : (Sha.u8s l).toArray.all (·.oneCell') = true := by simp [Sha.u8s, Value.oneCell']
theorem info32 (V R : List Int) (n : Nat) : (Tryz.prog.info? 107).map (·.size) = some (Sha.u8s (Sha.final V R n)).toArray.size := by rw [List.size_toArray, Sha.length_u8s, Sha.length_final]; kernel_rfl
theorem size32 {z : Array Value} (h : z.size = 32) (V R : List Int) (n : Nat) : z.size = (Sha.u8s (Sha.final V R n)).toArray.size := by rw [h, List.size_toArray, Sha.length_u8s, Sha.length_final]
theorem two_new (w : World) (a : Array Value) (ta : TypeId) (b : Array Value) (tb : TypeId) : ∀ W, (w.alloc (.cells a ta)).alloc (.cells b tb) = W → W.heap[w.heap.size]? = some (.cells a ta (0, 0)) ∧ W.heap[w.heap.size + 1]? = some (.cells b tb (0, 0)) ∧ W.heap.size = w.heap.size + 2 ∧
    Below w.heap.size w W ∧ ∀ p v, w.cell? p = some v → W.cell? p = some v := by
  rintro W rfl
  exact ⟨heap_alloc2_old _ _ _, heap_alloc2_new _ _ _, by simp, ((Below.refl _ _).alloc (Nat.le_refl _) _).alloc (by simp) _, fun p v h => by
    have := World.block_lt_of_cell? w p h
    rw [World.cell?_alloc_lt _ _ _ (by simp; omega), World.cell?_alloc_lt _ _ _ this]; exact h⟩
set_option maxRecDepth 100000 in
set_option maxHeartbeats 1000000 in
theorem hsum_any (hb : Nat) (v0 v1 v2 v3 v4 v5 v6 v7 : Int) (R : List Int) (hR : R.length < 64) (n : Nat) (hn1 : n ≤ 281474976710656) (w : World) (hob : Sha.IsBytes R)
    (hH : HashAt w hb [v0, v1, v2, v3, v4, v5, v6, v7] R n) :
    Calls Tryz.prog 72 #[.pointer (some ⟨hb, 0, none⟩)] w fun e w' => e = .returned (.agg (Sha.u8s (Sha.final [v0, v1, v2, v3, v4, v5, v6, v7] R n)).toArray) ∧ Below w.heap.size w w' := by
  obtain ⟨A, c, g, o, hH, hRc, hA, hgb, hcl⟩ := hH
  have hlt : hb < w.heap.size := (Array.getElem?_eq_some_iff.1 hH).1
  have hcell : ∀ j v, (Sha.hashCells [v0, v1, v2, v3, v4, v5, v6, v7] (.slice A R.length c) (n : Int))[j]? = some v → w.cell? ⟨hb, j, none⟩ = some v := fun j v h => by rw [cell_of_row w _ _ _ _ _ hH]; exact h
  have c0 : w.cell? ⟨hb, 0, none⟩ = some (.int .u32 v0) := hcell 0 _ rfl
  have c1 : w.cell? ⟨hb, 1, none⟩ = some (.int .u32 v1) := hcell 1 _ rfl
  have c2 : w.cell? ⟨hb, 2, none⟩ = some (.int .u32 v2) := hcell 2 _ rfl
  have c3 : w.cell? ⟨hb, 3, none⟩ = some (.int .u32 v3) := hcell 3 _ rfl
  have c4 : w.cell? ⟨hb, 4, none⟩ = some (.int .u32 v4) := hcell 4 _ rfl
  have c5 : w.cell? ⟨hb, 5, none⟩ = some (.int .u32 v5) := hcell 5 _ rfl
  have c6 : w.cell? ⟨hb, 6, none⟩ = some (.int .u32 v6) := hcell 6 _ rfl
  have c7 : w.cell? ⟨hb, 7, none⟩ = some (.int .u32 v7) := hcell 7 _ rfl
  have c8 : w.cell? ⟨hb, 8, none⟩ = some (.slice A R.length c) := hcell 8 _ rfl
  have c9 : w.cell? ⟨hb, 9, none⟩ = some (.int .u64 n) := hcell 9 _ rfl
  have hconv : ∀ o1 o2, (convert 75 9 (.slice A R.length c)).run Tryz.prog ((w.alloc o1).alloc o2) = .ok (.string (strOfNums R)) ((w.alloc o1).alloc o2) := fun o1 o2 =>
    conv_open hA hcl (fun p v h => by
      have := World.block_lt_of_cell? w p h
      rw [World.cell?_alloc_lt _ _ _ (by simp; omega), World.cell?_alloc_lt _ _ _ this]; exact h)
  have kb := fun W => Lib.run_convert_string_bytes (P := Tryz.prog) W 9 75 5 (strOfNums R) Tryz.underlying9 Tryz.underlying75 Tryz.underlying5
  have hb1 : hb < w.heap.size + 1 := by omega
  obtain ⟨i0, hi, hz0, hz1, hz2⟩ := info_parts info5
  have HI := Lib.hid hi
  have HZ0 := Lib.hid hz0
  have HZ1 := Lib.hid hz1
  have HZ2 := Lib.hid hz2
  have HH := Lib.hid hH
  clear hcl hcell hH hi hz0 hz1 hz2 hA
  go_enter Tryz.func72, Tryz.ntmps72
  go_upto_region 4 with (fail)
  go_cut [2, 3, 4] (fun s2 s3 s4 wx => s2 = .pointer (some ⟨w.heap.size, 0, none⟩) ∧ s3 = .pointer (some ⟨w.heap.size + 1, 0, none⟩) ∧ (∃ z, wx.heap[w.heap.size]? = some (.cells z 107 (0, 0)) ∧ z.size = 32) ∧
      wx.heap[w.heap.size + 1]? = some (.cells (Sha.words [v0, v1, v2, v3, v4, v5, v6, v7]) 127 (0, 0)) ∧ OwnM wx (w.heap.size + 2) 5 s4 (Sha.u8s (R ++ [128])) ∧ Below w.heap.size w wx ∧ w.heap.size + 2 ≤ wx.heap.size)
  case first =>
    go_wp2_with (at_builtin; go_must (refine wpList_append_m _ rfl _ _ 75 rfl (w.heap.size + 2) 5 i0 (.int .u8 0) Tryz.underlying75 HI.out HZ0.out HZ1.out rfl _ (Lib.strCells (strOfNums R)) rfl (own_after _ _ _ _ _ _ _ hR) ⟨_, 0, none⟩ 1 (.int .u8 128) rfl (cell_new1 _ _ _) rfl ?h1 ?h2 ?h3 ?h4))
    case h1 => simp only [Lib.strCells_length, strOfNums_size, maxLen]; omega
    case h2 => simp only [Lib.strCells_length, strOfNums_size, HZ2.out]; omega
    case h3 => rw [World.size_alloc, Lib.bytesWorld_size]; simp
    intro v1 w1 hown1 hgrow1
    go_wp2
    go_meet
    obtain ⟨e1, e2, e3, e4⟩ := sum_first _ _ _ _ _ _ _ _ hgrow1
    refine ⟨rfl, rfl, ⟨_, e1, rfl⟩, e2, ?_, e3, e4⟩
    have e5 : Lib.strCells (strOfNums R) ++ [Value.int .u8 128] = Sha.u8s (R ++ [128]) := by rw [strCells_strOfNums hob]; simp [Sha.u8s]
    rw [← e5]
    exact hown1
  case rest =>
    obtain ⟨rfl, rfl, ⟨z, hz, hzs⟩, hb4, hown, hbel, hsz⟩ := hcut
    clear c0 c1 c2 c3 c4 c5 c6 c7 c8 hconv kb
    go_wp2_with fail
    go_loopg [4] (Sha.zs R.length) (fun gk v wr => ∃ m : Nat, gk + m = Sha.zs R.length ∧ OwnM wr (w.heap.size + 2) 5 v (Sha.u8s (Sha.pad0 R m)) ∧
        wr.heap[w.heap.size]? = some (.cells z 107 (0, 0)) ∧ wr.heap[w.heap.size + 1]? = some (.cells (Sha.words [v0, v1, v2, v3, v4, v5, v6, v7]) 127 (0, 0)) ∧ Below w.heap.size w wr)
    case atStart => exact ⟨0, rfl, by simpa [Sha.pad0] using hown, hz, hb4, hbel⟩
    case round =>
      clear hown hz hb4 hbel
      obtain ⟨m, hm, hown, hz, hb4, hbel⟩ := hrel
      obtain ⟨gt, cap, hv, hgt, hcap, hgts, htc⟩ := hown.cell
      rw [Sha.length_u8s, Sha.length_pad0] at hv hcap
      have HOWN := Lib.hid hown
      have HTC := Lib.hid htc
      have hsz2 := (Array.getElem?_eq_some_iff.1 hb4).1
      subst hv
      by_cases hlm : m < Sha.zs R.length
      · have ht1 := Sha.zs_not R.length m hlm
        have hzl := Sha.zs_lt R.length
        have ht : (((R.length : Int) + 1 + (m : Int)) % 64 != 56) = true := by rw [bne_iff_ne]; omega
        have HM := Lib.hid hm
        clear hown htc hm ht1
        go_wp2_with (at_builtin; go_must (refine wpList_append_m _ rfl _ _ 75 rfl (w.heap.size + 2) 5 i0 (.int .u8 0) Tryz.underlying75 HI.out HZ0.out HZ1.out rfl _ (Sha.u8s (Sha.pad0 R m)) rfl (HOWN.out.alloc _) ⟨_, 0, none⟩ 1 (.int .u8 0) rfl (cell_new1 _ _ _) rfl ?g1 ?g2 ?g3 ?g4))
        case g1 => rw [Sha.length_u8s, Sha.length_pad0]; simp only [maxLen]; omega
        case g2 => rw [Sha.length_u8s, Sha.length_pad0, HZ2.out]; omega
        case g3 => simp; omega
        intro v' w' hown' hgrow'
        have HO' := Lib.hid hown'
        have HG' := Lib.hid hgrow'
        clear hown' hgrow'
        go_wp2
        go_roundg (gk - 1)
        case measure => have := HM.out; omega
        case rel =>
          have hm := HM.out
          obtain ⟨e1, e2, e3⟩ := row_kept _ _ HG'.out (by omega) hz hb4 hbel
          exact ⟨m + 1, by omega, by rw [← Sha.pad0_succ]; exact HO'.out, e1, e2, e3⟩
      · have hmz : m = Sha.zs R.length := by omega
        have ht : (((R.length : Int) + 1 + (m : Int)) % 64 != 56) = false := by have := Sha.zs_end R.length; rw [← hmz] at this; simp; omega
        have hzl := Sha.zs_lt R.length
        have hm64 : m < 64 := by omega
        have HMZ := Lib.hid hmz
        clear hown htc hm hmz hzl
        obtain ⟨wo, rfl⟩ : ∃ wo : World, wo = wr := ⟨_, rfl⟩
        go_wp2_with fail
        go_loopw [4, 5] (fun v i wr => ∃ k : Nat, k ≤ 8 ∧ i = .int .i64 (56 - 8 * (k : Int)) ∧ OwnM wr (w.heap.size + 2) 5 v (Sha.u8s (Sha.pad0 R m ++ Sha.lenTo n k)) ∧
            wr.heap[w.heap.size]? = some (.cells z 107 (0, 0)) ∧ wr.heap[w.heap.size + 1]? = some (.cells (Sha.words [v0, v1, v2, v3, v4, v5, v6, v7]) 127 (0, 0)) ∧ Below w.heap.size w wr)
          (fun _ i _ => (intOf i + 8).toNat)
        case atStart => exact ⟨0, by omega, rfl, by simpa [Sha.lenTo] using HOWN.out, hz, hb4, hbel⟩
        case round =>
          clear hz hb4 hbel HOWN HTC hsz2 hgts
          obtain ⟨k, hk, rfl, hown, hz, hb4, hbel⟩ := hrel
          obtain ⟨gt2, cap2, hv, hgt2, hcap2, hgts2, htc⟩ := hown.cell
          rw [Sha.length_u8s, List.length_append, Sha.length_pad0, Sha.length_lenTo] at hv hcap2
          have HOWN := Lib.hid hown
          have HTC := Lib.hid htc
          have hsz2 := (Array.getElem?_eq_some_iff.1 hb4).1
          have HGT := Lib.hid hgts2
          subst hv
          have d9 : wr.cell? ⟨hb, 9, none⟩ = some (.int .u64 n) := (hbel.cell hlt).trans c9
          clear hown htc
          by_cases hlk : k < 8
          · go_wp2_with (at_builtin; go_must (refine wpList_append_m _ rfl _ _ 75 rfl (w.heap.size + 2) 5 i0 (.int .u8 0) Tryz.underlying75 HI.out HZ0.out HZ1.out rfl _ (Sha.u8s (Sha.pad0 R m ++ Sha.lenTo n k)) rfl (HOWN.out.alloc _) ⟨_, 0, none⟩ 1 (.int .u8 (Sha.lenByte n k)) rfl (cell_new1 _ _ _) rfl ?k1 ?k2 ?k3 ?k4))
            case k1 => rw [Sha.length_u8s, List.length_append, Sha.length_pad0, Sha.length_lenTo]; simp only [maxLen]; omega
            case k2 => rw [Sha.length_u8s, List.length_append, Sha.length_pad0, Sha.length_lenTo, HZ2.out]; omega
            case k3 => simp; omega
            intro v' w' hown' hgrow'
            have HO' := Lib.hid hown'
            have HG' := Lib.hid hgrow'
            clear hown' hgrow'
            go_wp2
            go_roundw
            case measure => simp [intOf]; omega
            case rel =>
              obtain ⟨e1, e2, e3⟩ := row_kept _ _ HG'.out (by omega) hz hb4 hbel
              refine ⟨k + 1, by omega, by go_num, ?_, e1, e2, e3⟩
              have := HO'.out
              rw [Sha.lenTo_succ, ← List.append_assoc]
              simpa [Sha.u8s] using this
          · have hk8 : k = 8 := by omega
            subst hk8
            obtain ⟨P, hP⟩ : ∃ P, P = Sha.pad0 R m ++ Sha.lenTo n 8 := ⟨_, rfl⟩
            obtain ⟨T, hT⟩ : ∃ T, T = R.length + 1 + m + 8 := ⟨_, rfl⟩
            have hPl : P.length = T := by rw [hP, hT, List.length_append, Sha.length_pad0, Sha.length_lenTo]
            have hPB : Sha.IsBytes P := by rw [hP]; exact Sha.isBytes_pad hob
            have hT64 : T % 64 = 0 := by have := Sha.zs_end R.length; rw [← HMZ.out] at this; omega
            have htc : ∀ i u, (Sha.u8s P)[i]? = some u → wr.cell? ⟨gt2, i, none⟩ = some u := by rw [hP]; exact HTC.out
            rw [← hT] at hcap2 ⊢
            have HP := Lib.hid hP
            have HT := Lib.hid hT
            have HPL := Lib.hid hPl
            have HPB := Lib.hid hPB
            have HT64 := Lib.hid hT64
            have HTC2 := Lib.hid htc
            have hTlt : T ≤ 200 := by omega
            clear hP hT hPl hPB hT64 htc d9 HOWN HTC hgts2
            obtain ⟨wp, rfl⟩ : ∃ wp : World, wp = wr := ⟨_, rfl⟩
            go_wp2_with fail
            go_loopg [4] (T / 64) (fun gk v wr => ∃ (j : Nat) (A : Option Addr) (c : Nat), gk + j = T / 64 ∧ v = .slice A (T - 64 * j) c ∧ T - 64 * j ≤ c ∧ AddrOk A gt2 (T - 64 * j) (64 * j) ∧
                (∀ i u, (Sha.u8s P)[i]? = some u → wr.cell? ⟨gt2, i, none⟩ = some u) ∧ gt2 < wr.heap.size ∧
                wr.heap[w.heap.size]? = some (.cells z 107 (0, 0)) ∧ wr.heap[w.heap.size + 1]? = some (.cells (Sha.words (Sha.blocks [v0, v1, v2, v3, v4, v5, v6, v7] P j)) 127 (0, 0)) ∧ Below w.heap.size w wr)
            case atStart => exact ⟨0, _, cap2, by omega, rfl, hcap2, .inr ⟨0, rfl, fun _ => rfl⟩, HTC2.out, HGT.out, hz, hb4, hbel⟩
            case round =>
              clear hz hb4 hbel HTC2 HGT
              obtain ⟨j, A, c, hj, rfl, hc, hA, htc, hgts, hz, hb4, hbel⟩ := hrel
              obtain ⟨q, hq⟩ : ∃ q, q = T - 64 * j := ⟨_, rfl⟩
              rw [← hq] at hc hA ⊢
              have HJ := Lib.hid hj
              have HQ := Lib.hid hq
              have HTC := Lib.hid htc
              by_cases hlq : 64 ≤ q
              · obtain rfl := hA.pos (by omega)
                obtain ⟨x0, x1, x2, x3, x4, x5, x6, x7, hV⟩ := Sha.list8 (show (Sha.blocks [v0, v1, v2, v3, v4, v5, v6, v7] P j).length = 8 by rw [Sha.length_blocks]; rfl)
                obtain ⟨A', hcut, hA'⟩ := cut64 gt2 (64 * j) q c hlq hc
                have hTk := take_any (w.heap.size + 1) gt2 (64 * j) c x0 x1 x2 x3 x4 x5 x6 x7 (P.drop (64 * j)) [] 127
                  (fun i _ => by rw [Sha.nth_drop]; exact HPB.out _) wr (by rw [hb4, hV]; simp [Sha.words]) (fun i hi => by rw [Sha.nth_drop]; exact htc _ _ (u8s_get _ _ (by rw [HPL.out]; omega)))
                rw [← hV] at hTk
                have HTk := Lib.hid hTk
                have HA' := Lib.hid hA'
                clear hj hq htc hV hTk hA hA'
                have hc64 : 64 ≤ c := by omega
                go_wp2_with (go_at_call 79; refine (HTk.out).mono ?_; rintro e w2 ⟨rfl, hb2, hg2⟩; have HB2 := Lib.hid hb2; have HG2 := Lib.hid hg2; clear hb2 hg2)
                go_roundg (gk - 1)
                case measure => have := HJ.out; have := HQ.out; omega
                case rel =>
                  have hj := HJ.out
                  have hq := HQ.out
                  have hg2 := HG2.out
                  have hold : ∀ k, k < wr.heap.size → k ≠ w.heap.size + 1 → w2.heap[k]? = wr.heap[k]? := fun k hk hne => hg2.block k hk (by simp [hne])
                  refine ⟨j + 1, A', c - 64, by omega, by rw [show T - 64 * (j + 1) = q - 64 by omega], by omega, by rw [show T - 64 * (j + 1) = q - 64 by omega]; exact HA'.out, fun i u hu => ?_, Nat.lt_of_lt_of_le hgts hg2.size, ?_, ?_, ?_⟩
                  · exact (World.cell?_of_block (hold gt2 hgts (by omega))).trans (HTC.out i u hu)
                  · rw [hold _ (Array.getElem?_eq_some_iff.1 hz).1 (by omega)]; exact hz
                  · rw [HB2.out]; simp [Sha.words, Sha.blocks]
                  · exact hbel.trans ⟨hg2.os, hg2.tape, hg2.output, hg2.size, fun k hk => hold k (by have := hbel.size; omega) (by omega)⟩
              · have hq0 : q ≤ 0 := by have := HT64.out; omega
                have hjT : j = T / 64 := by have := HT64.out; omega
                rw [hjT] at hb4
                obtain ⟨W, hW⟩ : ∃ W, W = Sha.blocks [v0, v1, v2, v3, v4, v5, v6, v7] P (T / 64) := ⟨_, rfl⟩
                rw [← hW] at hb4
                have HW := Lib.hid hW
                have HW8 := Lib.hid (show W.length = 8 by rw [hW, Sha.length_blocks]; rfl)
                have hszr := hbel.size
                clear hq hj hjT hW hA htc
                obtain ⟨wq, rfl⟩ : ∃ wq : World, wq = wr := ⟨_, rfl⟩
                go_wp2_with fail
                have hsd : w.heap.size + 1 < wq.heap.size := (Array.getElem?_eq_some_iff.1 hb4).1
                go_loopw [54] (fun i wr => ∃ k : Nat, k ≤ 32 ∧ i = .int .i64 k ∧ wr.heap[wq.heap.size]? = some (.cells (Sha.u8s (Sha.digestTo W k)).toArray 107 (0, 0)) ∧
                    wr.heap[w.heap.size]? = some (.cells z 107 (0, 0)) ∧ wr.heap[w.heap.size + 1]? = some (.cells (Sha.words W) 127 (0, 0)) ∧ Below w.heap.size w wr)
                  (fun i _ => 32 - (intOf i).toNat)
                case atStart =>
                  exact ⟨0, by omega, rfl, heap_alloc_new _ _, by rw [heap_alloc_old _ _ (by omega)]; exact hz, by rw [heap_alloc_old _ _ (by omega)]; exact hb4, hbel.alloc (by omega) _⟩
                case round =>
                  clear hz hb4 hbel
                  obtain ⟨k, hk, rfl, hd, hz, hb4, hbel⟩ := hrel
                  by_cases hlk : k < 32
                  · have hcw : wr.cell? ⟨w.heap.size + 1, k / 4, none⟩ = some (.int .u32 (Sha.nth W (k / 4))) := by
                      rw [cell_of_row wr _ _ _ _ _ hb4]; exact Sha.words_get _ _ (by rw [HW8.out]; omega)
                    have hdl := Sha.length_digestTo W k
                    have hcd : wr.cell? ⟨wq.heap.size, k, none⟩ = some (.int .u8 (Sha.nth (Sha.digestTo W k) k)) := by
                      rw [cell_of_row wr _ _ _ _ _ hd]; simpa using u8s_get _ _ (by rw [hdl]; omega)
                    have hfd : wr.frozen? ⟨wq.heap.size, k, none⟩ = false := frozen_of_row wr _ _ _ _ hd
                    have HDL := Lib.hid hdl
                    clear hdl
                    go_wp2
                    go_roundw
                    case measure => simp [intOf]; omega
                    case rel =>
                      have hzlt := (Array.getElem?_eq_some_iff.1 hz).1
                      refine ⟨k + 1, by omega, by go_num, ?_, ?_, ?_, hbel.setCell (by simp; omega) _⟩
                      · rw [heap_setCell_same wr _ _ _ _ _ hd, u8s_set]; rfl
                      · rw [heap_setCell_other wr _ _ _ (by simp; omega)]; exact hz
                      · rw [heap_setCell_other wr _ _ _ (by simp; omega)]; exact hb4
                  · have hk32 : k = 32 := by omega
                    have hd : wr.heap[wq.heap.size]? = some (.cells (Sha.u8s (Sha.final [v0, v1, v2, v3, v4, v5, v6, v7] R n)).toArray 107 (0, 0)) := by
                      rw [hd, hk32, HW.out, HP.out, HT.out, HMZ.out]
                      simp [Sha.final, Sha.length_pad0, Sha.length_lenTo]
                    clear hk32
                    go_wp2_with (first | (with_reducible refine wpList_load_row rfl 107 _ rfl wq.heap.size (by kernel_rfl) 107 _ (0, 0) _ hd Tryz.underlying107 (by kernel_rfl) (info32 _ _ _) ?_) | (with_reducible refine wpList_store_rowTo rfl 107 _ _ rfl rfl w.heap.size (Sha.u8s (Sha.final [v0, v1, v2, v3, v4, v5, v6, v7] R n)).toArray (by kernel_rfl) (by kernel_rfl) 107 z hz (info32 _ _ _) (size32 hzs _ _ _) (u8s_one _) ?_))
                    refine bodyPost_ret (results_cell_row rfl _ _ w.heap.size 107 (Sha.u8s (Sha.final [v0, v1, v2, v3, v4, v5, v6, v7] R n)).toArray (0, 0) _ (by kernel_rfl) (setRow_heap _ _ _ _ _ _ hz) Tryz.underlying107 rfl (info32 _ _ _)) rfl ⟨rfl, ?_⟩
                    exact below_setRow hbel (Nat.le_refl _) _
end Go.Proofs.YtpllcnpcplbobaaGreat
end
section
namespace Go.Proofs.YtpllcnpcplbobaaGreat
open Go.RowKit
set_option maxRecDepth 100000 in
theorem new_any (w : World) : Calls Tryz.prog 70 #[] w fun e w' => e = .returned (.pointer (some ⟨w.heap.size + 1, 0, none⟩)) ∧
    w' = (w.alloc (.cells (Sha.words Sha.H0) 127)).alloc (.cells (Sha.hashCells Sha.H0 (.slice none 0 0) ((0 : Nat) : Int)) 131) := by
  go_enter Tryz.func70, Tryz.ntmps70
  go_wp2_with (go_at_call 78; refine (begin_any _).mono ?_; rintro e w1 ⟨rfl, rfl⟩)
  go_ret
  exact ⟨rfl, by kernel_rfl⟩
theorem infoSum (L : List Int) : (Tryz.prog.info? 107).map (·.size) = some (Sha.u8s (Sha.sum L)).toArray.size := by rw [List.size_toArray, Sha.length_u8s, Sha.length_sum]; kernel_rfl
theorem sizeSum (L : List Int) : (#[.int .u8 0, .int .u8 0, .int .u8 0, .int .u8 0, .int .u8 0, .int .u8 0, .int .u8 0, .int .u8 0, .int .u8 0, .int .u8 0, .int .u8 0, .int .u8 0, .int .u8 0, .int .u8 0, .int .u8 0, .int .u8 0, .int .u8 0, .int .u8 0, .int .u8 0, .int .u8 0, .int .u8 0, .int .u8 0, .int .u8 0, .int .u8 0, .int .u8 0, .int .u8 0, .int .u8 0, .int .u8 0, .int .u8 0, .int .u8 0, .int .u8 0, .int .u8 0] : Array Value).size = (Sha.u8s (Sha.sum L)).toArray.size := by
  have h : (Sha.u8s (Sha.sum L)).toArray.size = 32 := by rw [List.size_toArray, Sha.length_u8s, Sha.length_sum]
  rw [h]; rfl
theorem new_calls (w : World) : Calls Tryz.prog 70 #[] w fun e w' => e = .returned (.pointer (some ⟨w.heap.size + 1, 0, none⟩)) ∧
    (Below w.heap.size w w' ∧ w'.heap[w.heap.size + 1]? = some (.cells (Sha.hashCells Sha.H0 (.slice none 0 0) ((0 : Nat) : Int)) 131 (0, 0))) := by
  refine (new_any w).mono fun e w' ⟨he, hw⟩ => ⟨he, ?_, ?_⟩
  · rw [hw]; exact ((Below.refl _ _).alloc (Nat.le_refl _) _).alloc (by simp) _
  · rw [hw]; exact heap_alloc2_new _ _ _
set_option maxRecDepth 100000 in
set_option maxHeartbeats 1000000 in
/-- The digest of two texts, the first one short. -/
theorem sum_any (pb : Nat) (p q : ByteArray) (hp : p.size < 64) (hq : q.size ≤ 70368744177664) (w : World) (h0 : w.cell? ⟨pb, 0, none⟩ = some (.string p)) (h1 : w.cell? ⟨pb, 1, none⟩ = some (.string q)) :
    Calls Tryz.prog 62 #[.slice (some ⟨pb, 0, none⟩) 2 2] w fun e w' => e = .returned (.agg (Sha.u8s (Sha.sum (Sha.bytesI p ++ Sha.bytesI q))).toArray) ∧ Below w.heap.size w w' := by
  go_enter Tryz.func62, Tryz.ntmps62
  go_wp2_with (go_at_call 70; refine (new_calls _).mono ?_; rintro e W ⟨rfl, hW, e2⟩; have HW := Lib.hid hW; have E2 := Lib.hid e2; clear hW e2)
  have hW := HW.out
  have e2 := E2.out
  simp only [World.size_alloc] at hW e2
  have e0 := (hW.block w.heap.size (by omega)).trans (heap_alloc_new w _)
  have hbW : Below w.heap.size w W := ((Below.refl _ _).alloc (Nat.le_refl _) _).trans (hW.mono (by omega))
  have hszW : w.heap.size + 1 + 1 < W.heap.size := (Array.getElem?_eq_some_iff.1 e2).1
  have hA1 := add_any (w.heap.size + 1 + 1) Sha.H0 [] rfl 0 (by omega) p W (by simpa using Sha.isBytes_bytesI p) ⟨_, e2, World.ownsRow_nil _ _ _ _⟩ (by simp; omega)
  have H1 := Lib.hid hA1
  have E0 := Lib.hid e0
  have HB := Lib.hid hbW
  have g0 : W.cell? ⟨pb, 0, none⟩ = some (.string p) := (hbW.cell (World.block_lt_of_cell? w _ h0)).trans h0
  have g1 := Lib.hid ((hbW.cell (World.block_lt_of_cell? w _ h1)).trans h1)
  have hpb := World.block_lt_of_cell? w _ h0
  simp only at hpb
  clear hA1 e0 e2 hbW hW HW E2 h0 h1
  refine wp_loop_rounds 3 ?_
  rw [rounds_succ]
  go_wp2_with (go_at_call 71; refine (H1.out).mono ?_; rintro e w2 ⟨rfl, _, hb2, hown2⟩; have H2 := Lib.hid hb2; have O2 := Lib.hid hown2; clear hb2 hown2)
  have hown := O2.out (by simpa using hp)
  simp only [List.nil_append, Nat.zero_add] at hown
  have h2 := H2.out
  have hA2 := add_any (w.heap.size + 1 + 1) Sha.H0 (Sha.bytesI p) rfl p.size (by omega) q w2 (Sha.isBytes_append (Sha.isBytes_bytesI p) (Sha.isBytes_bytesI q)) hown (by rw [Sha.length_bytesI]; omega)
  have H3 := Lib.hid hA2
  have HW2 := Lib.hid (HB.out.trans (h2.mono (by omega)))
  have E02 := Lib.hid ((h2.block w.heap.size (by omega)).trans E0.out)
  have q1 : w2.cell? ⟨pb, 1, none⟩ = some (.string q) := (h2.cell (by simp; omega)).trans g1.out
  have hsz2 := h2.size
  clear hA2 hown h2 H1 H2 O2 E0 HB g0 g1
  rw [rounds_succ]
  go_wp2_with (go_at_call 71; refine (H3.out).mono ?_; rintro e w3 ⟨rfl, ha3, hb3, _⟩; have A3 := Lib.hid ha3; have B3 := Lib.hid hb3; clear ha3 hb3)
  rw [rounds_succ]
  have h3 := B3.out
  obtain ⟨x0, x1, x2, x3, x4, x5, x6, x7, hV⟩ := Sha.list8 (show (Sha.blocks Sha.H0 (Sha.bytesI p ++ Sha.bytesI q) (((Sha.bytesI p).length + q.size) / 64)).length = 8 by rw [Sha.length_blocks]; rfl)
  have ha3 := A3.out
  rw [hV] at ha3
  have hS := hsum_any (w.heap.size + 1 + 1) x0 x1 x2 x3 x4 x5 x6 x7 _ (by simp only [List.length_drop, List.length_append, Sha.length_bytesI]; omega) (p.size + q.size) (by omega) w3 (Sha.isBytes_drop (Sha.isBytes_append (Sha.isBytes_bytesI p) (Sha.isBytes_bytesI q)) _) ha3
  rw [← hV] at hS
  have e4 : Sha.final (Sha.blocks Sha.H0 (Sha.bytesI p ++ Sha.bytesI q) (((Sha.bytesI p).length + q.size) / 64)) (List.drop (64 * (((Sha.bytesI p).length + q.size) / 64)) (Sha.bytesI p ++ Sha.bytesI q)) (p.size + q.size) = Sha.sum (Sha.bytesI p ++ Sha.bytesI q) := by
    simp [Sha.sum, Sha.length_bytesI]
  rw [e4] at hS
  have H4 := Lib.hid hS
  have HW3 := Lib.hid (HW2.out.trans (h3.mono (by omega)))
  have E03 := Lib.hid ((h3.block w.heap.size (by omega)).trans E02.out)
  have hsz3 := h3.size
  clear hS ha3 hV h3 A3 B3 H3 E02 HW2 q1 e4
  go_wp2_with (first | (go_at_call 72; refine (H4.out).mono ?_; rintro e w4 ⟨rfl, hb4⟩; have B4 := Lib.hid hb4; clear hb4) | (with_reducible refine wpList_store_rowTo rfl 107 _ _ rfl rfl w.heap.size (Sha.u8s (Sha.sum (Sha.bytesI p ++ Sha.bytesI q))).toArray (by kernel_rfl) (by kernel_rfl) 107 _ (((B4.out).block w.heap.size (by omega)).trans E03.out) (infoSum _) (sizeSum _) (u8s_one _) ?_))
  refine bodyPost_ret (results_cell_row rfl _ _ w.heap.size 107 (Sha.u8s (Sha.sum (Sha.bytesI p ++ Sha.bytesI q))).toArray (0, 0) _ (by kernel_rfl) (setRow_heap _ _ _ _ _ _ (((B4.out).block w.heap.size (by omega)).trans E03.out)) Tryz.underlying107 rfl (infoSum _)) rfl ⟨rfl, ?_⟩
  exact below_setRow (HW3.out.trans ((B4.out).mono (by omega))) (Nat.le_refl _) _
end Go.Proofs.YtpllcnpcplbobaaGreat
end
section
namespace Go.Proofs.YtpllcnpcplbobaaGreat
open Go.RowKit
theorem conv_new (W : World) (l : List Int) (m cap : Nat) (hm : m ≤ l.length) (t : TypeId) :
    (convert 75 9 (.slice (some ⟨W.heap.size, 0, none⟩) m cap)).run Tryz.prog (W.alloc (.cells (Sha.u8s l).toArray t)) = .ok (.string (strOfNums (l.take m))) (W.alloc (.cells (Sha.u8s l).toArray t)) := by
  refine run_convert_bytes_arg _ 75 5 Tryz.underlying75 Tryz.underlying5 W.heap.size 0 m cap (l.take m) (by simp; omega) (fun i hi => ?_) 9 Tryz.underlying9
  rw [cell_of_row _ _ _ _ _ _ (heap_alloc_new W _)]
  have := u8s_get l (0 + i) (by omega)
  simp only [List.getElem?_toArray, this]
  simp [Sha.nth, hi]
def num4 (n : Nat) : List Int := [(n : Int) / 16777216 % 256, (n : Int) / 65536 % 256, (n : Int) / 256 % 256, (n : Int) % 256]
/-- A record's head: how long it is, and the first eight bytes of the digest. -/
def headL (rec : ByteArray) : List Int := num4 rec.size ++ (Sha.sum (num4 rec.size ++ Sha.bytesI rec)).take 8
theorem isBytes_num4 (n : Nat) : Sha.IsBytes (num4 n) := Sha.isBytes_of fun x hx => by
  simp only [num4, List.mem_cons, List.not_mem_nil, or_false] at hx
  rcases hx with rfl | rfl | rfl | rfl <;> omega
theorem bytesI_strOfNums {l : List Int} (h : Sha.IsBytes l) : Sha.bytesI (strOfNums l) = l := by
  apply List.ext_getElem
  · rw [Sha.length_bytesI, strOfNums_size]
  · intro i h1 h2
    have hb := h i
    have e : Sha.nth l i = l[i] := by simp [Sha.nth, h2]
    rw [e] at hb
    simp [Sha.bytesI, strOfNums_data]
    omega
theorem cells2 (w : World) (o : Obj) (a b : Value) (t : TypeId) : ((w.alloc o).alloc (.cells #[a, b] t)).cell? ⟨w.heap.size + 1, 0, none⟩ = some a ∧ ((w.alloc o).alloc (.cells #[a, b] t)).cell? ⟨w.heap.size + 1, 1, none⟩ = some b :=
  ⟨by rw [cell_of_row _ _ _ _ _ _ (heap_alloc2_new w o _)]; rfl, by rw [cell_of_row _ _ _ _ _ _ (heap_alloc2_new w o _)]; rfl⟩
theorem strOfNums_append (a b : List Int) : strOfNums a ++ strOfNums b = strOfNums (a ++ b) := by
  apply ByteArray.ext
  simp [strOfNums]
set_option maxRecDepth 100000 in
set_option maxHeartbeats 1000000 in
theorem heading_any (rec : ByteArray) (hr : rec.size ≤ 1099511627776) (w : World) :
    Calls Tryz.prog 48 #[.string rec] w fun e w' => e = .returned (.string (strOfNums (headL rec))) ∧ Below w.heap.size w w' := by
  have hc4 : ∀ (W : World) (a b c d : Int), (convert 75 9 (.slice (some ⟨W.heap.size, 0, none⟩) 4 4)).run Tryz.prog (W.alloc (.cells #[.int .u8 a, .int .u8 b, .int .u8 c, .int .u8 d] 5)) = .ok (.string (strOfNums [a, b, c, d])) (W.alloc (.cells #[.int .u8 a, .int .u8 b, .int .u8 c, .int .u8 d] 5)) :=
    fun W a b c d => conv_new W [a, b, c, d] 4 4 (by simp) 5
  obtain ⟨L, hL⟩ : ∃ L, L = Sha.sum (num4 rec.size ++ Sha.bytesI rec) := ⟨_, rfl⟩
  have hlen : L.length = 32 := by rw [hL, Sha.length_sum]
  have hc8 : ∀ W : World, (convert 75 9 (.slice (some ⟨W.heap.size, 0, none⟩) 8 32)).run Tryz.prog (W.alloc (.cells (Sha.u8s L).toArray 107)) = .ok (.string (strOfNums (L.take 8))) (W.alloc (.cells (Sha.u8s L).toArray 107)) :=
    fun W => conv_new W L 8 32 (by omega) 107
  have hsum := fun W pb => sum_any pb (strOfNums (num4 rec.size)) rec (by rw [strOfNums_size]; simp [num4]) (by omega) W
  rw [bytesI_strOfNums (isBytes_num4 _), ← hL] at hsum
  simp only [num4] at hsum
  have HS := Lib.hid hsum
  have HL := Lib.hid hL
  have h8 : (strOfNums (L.take 8)).size = 8 := by rw [strOfNums_size]; simp; omega
  have h4 : ∀ a b c d, (strOfNums [a, b, c, d]).size = 4 := fun a b c d => by rw [strOfNums_size]; rfl
  have HI : (Tryz.prog.info? 107).map (·.size) = some (Sha.u8s L).toArray.size := by rw [hL]; exact infoSum _
  have HZ : (#[.int .u8 0, .int .u8 0, .int .u8 0, .int .u8 0, .int .u8 0, .int .u8 0, .int .u8 0, .int .u8 0, .int .u8 0, .int .u8 0, .int .u8 0, .int .u8 0, .int .u8 0, .int .u8 0, .int .u8 0, .int .u8 0, .int .u8 0, .int .u8 0, .int .u8 0, .int .u8 0, .int .u8 0, .int .u8 0, .int .u8 0, .int .u8 0, .int .u8 0, .int .u8 0, .int .u8 0, .int .u8 0, .int .u8 0, .int .u8 0, .int .u8 0, .int .u8 0] : Array Value).size = (Sha.u8s L).toArray.size := by rw [hL]; exact sizeSum _
  have HI := Lib.hid HI
  have HZ := Lib.hid HZ
  clear hsum hL hlen
  go_enter Tryz.func48, Tryz.ntmps48
  go_wp2_with (first | (go_at_call 62; refine (HS.out _ _ (cells2 _ _ _ _ _).1 (cells2 _ _ _ _ _).2).mono ?_; rintro e w1 ⟨rfl, hb1⟩; have B1 := Lib.hid hb1; clear hb1) | (with_reducible refine wpList_store_rowTo rfl 107 _ _ rfl rfl _ (Sha.u8s L).toArray (by kernel_rfl) (by kernel_rfl) 107 _ (heap_alloc_new _ _) HI.out HZ.out (u8s_one _) ?_; rw [setRow_alloc]))
  go_ret
  exact ⟨by rw [HL.out, strOfNums_append]; rfl, (((((Below.refl _ _).alloc (Nat.le_refl _) _).alloc (by simp) _).trans ((B1.out).mono (by simp; omega)))).alloc (Nat.le_trans (by simp; omega) (B1.out).size) _⟩
end Go.Proofs.YtpllcnpcplbobaaGreat
end
section
namespace Go.Proofs.YtpllcnpcplbobaaGreat
open Go.RowKit
/-- A record's frame. -/
def frameS (rec : ByteArray) : ByteArray := strOfNums (headL rec) ++ rec
theorem length_headL (rec : ByteArray) : (headL rec).length = 12 := by
  simp [headL, num4, Sha.length_sum]
theorem size_head (rec : ByteArray) : (strOfNums (headL rec)).size = 12 := by rw [strOfNums_size, length_headL]
theorem size_frameS (rec : ByteArray) : (frameS rec).size = 12 + rec.size := by rw [frameS, ByteArray.size_append, size_head]
/-- What journal.Frame answers. -/
def frameV (rec : ByteArray) : Value := if rec.size ≤ 1048576 then .tuple #[.string (frameS rec), .int .i64 0] else .tuple #[.string ⟨#[]⟩, .int .i64 6]
set_option maxRecDepth 100000 in
theorem frame_any (rec : ByteArray) (w : World) : Calls Tryz.prog 23 #[.string rec] w fun e w' => e = .returned (frameV rec) ∧ Below w.heap.size w w' := by
  go_enter Tryz.func23, Tryz.ntmps23
  by_cases hr : rec.size ≤ 1048576
  · have h12 := size_head rec
    have e1 : frameV rec = .tuple #[.string (strOfNums (headL rec) ++ rec), .int .i64 0] := by rw [frameV, if_pos hr]; rfl
    go_wp2_with (go_at_call 48; refine (heading_any rec (by omega) _).mono ?_; rintro e w1 ⟨rfl, hb1⟩)
    go_ret2
    exact ⟨by rw [e1]; rfl, hb1⟩
  · have e1 : frameV rec = .tuple #[.string ⟨#[]⟩, .int .i64 6] := by rw [frameV, if_neg hr]
    go_wp2_with fail
    go_ret2
    exact ⟨by rw [e1]; rfl, Below.refl _ _⟩
theorem frameV_empty : frameV ⟨#[]⟩ = .tuple #[.string (frameS ⟨#[]⟩), .int .i64 0] := if_pos (by decide)
theorem extract_append_left (a b : ByteArray) (n : Nat) (h : n ≤ a.size) : (a ++ b).extract 0 n = a.extract 0 n := by
  apply ByteArray.ext
  simp only [ByteArray.data_extract, ByteArray.data_append]
  have : n ≤ a.data.size := h
  have h0 : n - a.size = 0 := Nat.sub_eq_zero_of_le h
  simp [Array.extract_append, h0]
theorem extract_strOfNums (l : List Int) (n : Nat) : (strOfNums l).extract 0 n = strOfNums (l.take n) := by
  apply ByteArray.ext
  simp [strOfNums]
set_option maxRecDepth 100000 in
theorem fixed_any (w : World) : Calls Tryz.prog 5 #[] w fun e w' => e = .returned (.bool true) ∧ Below w.heap.size w w' := by
  have h12 : (frameS ⟨#[]⟩).size = 12 := size_frameS _
  have h4 : (frameS ⟨#[]⟩).extract 0 4 = ⟨#[0, 0, 0, 0]⟩ := by
    rw [frameS, extract_append_left _ _ _ (by rw [size_head]; omega), extract_strOfNums, headL, List.take_left']
    · rfl
    · rfl
  go_enter Tryz.func5, Tryz.ntmps5
  go_wp2_with (go_at_call 23; refine (frame_any _ _).mono ?_; rintro e w1 ⟨rfl, hb1⟩; rw [frameV_empty])
  go_ret
  exact ⟨rfl, hb1⟩
end Go.Proofs.YtpllcnpcplbobaaGreat
end
section
namespace Go.Proofs.YtpllcnpcplbobaaGreat
open Go.RowKit
/-! The records that bytes begin with, in plain terms. -/
def bat (s : ByteArray) (i : Nat) : Nat := if h : i < s.size then s[i].toNat else 0
theorem bat_lt (s : ByteArray) (i : Nat) : bat s i < 256 := by
  unfold bat
  split
  · exact UInt8.toNat_lt _
  · omega
theorem bat_eq (s : ByteArray) (i : Nat) (h : i < s.size) : s[i].toNat = bat s i := by simp [bat, h]
def numAt (s : ByteArray) (p : Nat) : Nat := ((bat s p * 256 + bat s (p + 1)) * 256 + bat s (p + 2)) * 256 + bat s (p + 3)
/-- The record whose frame stands at a place, if one does. -/
def stepAt (s : ByteArray) (p : Nat) : Option ByteArray :=
  if p + 12 ≤ s.size ∧ numAt s p ≤ 1048576 ∧ p + 12 + numAt s p ≤ s.size ∧ strOfNums (headL (s.extract (p + 12) (p + 12 + numAt s p))) = s.extract p (p + 12) then some (s.extract (p + 12) (p + 12 + numAt s p)) else none
theorem stepAt_some {s : ByteArray} {p : Nat} {r : ByteArray} (h : stepAt s p = some r) : p + 12 + r.size ≤ s.size := by
  unfold stepAt at h
  split at h
  · rename_i hc
    have := Option.some.inj h
    subst this
    rw [ByteArray.size_extract]
    omega
  · cases h
/-- The records from a place on, and the place behind them. -/
def scanF : Nat → ByteArray → Nat → List ByteArray × Nat
  | 0, _, p => ([], p)
  | f + 1, s, p =>
    match stepAt s p with
    | none => ([], p)
    | some r => (r :: (scanF f s (p + 12 + r.size)).1, (scanF f s (p + 12 + r.size)).2)
def scan (s : ByteArray) : List ByteArray × Nat := scanF (s.size + 1) s 0
theorem scanF_none {s : ByteArray} {p : Nat} (h : stepAt s p = none) : ∀ f, scanF f s p = ([], p)
  | 0 => rfl
  | f + 1 => by rw [scanF, h]
theorem scanF_some {s : ByteArray} {p : Nat} {r : ByteArray} (h : stepAt s p = some r) (f : Nat) : scanF (f + 1) s p = (r :: (scanF f s (p + 12 + r.size)).1, (scanF f s (p + 12 + r.size)).2) := by
  rw [scanF, h]
theorem extract_extract (s : ByteArray) (a b c d : Nat) : (s.extract a b).extract c d = s.extract (a + c) (min (a + d) b) := by
  apply ByteArray.ext
  simp [ByteArray.data_extract, Array.extract_extract]
theorem bat_extract (s : ByteArray) (p i : Nat) (h : p + i < s.size) : bat (s.extract p s.size) i = bat s (p + i) := by
  have h1 : i < (s.extract p s.size).size := by rw [ByteArray.size_extract]; omega
  unfold bat
  rw [dif_pos h1, dif_pos h]
  have e : (s.extract p s.size)[i] = s[p + i] := by
    show (s.extract p s.size).data[i] = s.data[p + i]
    simp only [ByteArray.data_extract, Array.getElem_extract]
  rw [e]
theorem stepAt_extract (s : ByteArray) (p : Nat) (hp : p ≤ s.size) : stepAt (s.extract p s.size) 0 = stepAt s p := by
  have hz : (s.extract p s.size).size = s.size - p := by rw [ByteArray.size_extract]; omega
  by_cases h12 : p + 12 ≤ s.size
  · have hn : numAt (s.extract p s.size) 0 = numAt s p := by
      unfold numAt
      rw [bat_extract _ _ _ (by omega), bat_extract _ _ _ (by omega), bat_extract _ _ _ (by omega), bat_extract _ _ _ (by omega)]
      rfl
    unfold stepAt
    rw [hn, hz, extract_extract, extract_extract]
    by_cases h2 : p + 12 + numAt s p ≤ s.size
    · rw [show p + (0 + 12) = p + 12 by omega, show min (p + (0 + 12 + numAt s p)) s.size = p + 12 + numAt s p by omega, show p + 0 = p by omega, show min (p + 12) s.size = p + 12 by omega]
      congr 1
      apply propext
      constructor <;> (rintro ⟨a, b, c, d⟩; exact ⟨by omega, b, by omega, d⟩)
    · rw [if_neg (by omega), if_neg (by omega)]
  · unfold stepAt
    rw [if_neg (by rw [hz]; omega), if_neg (by omega)]
theorem or32n (x y : Nat) (hor : x ||| y < 9223372036854775808) (hx : x < 9223372036854775808) (hy : y < 9223372036854775808) : bits .or .i64 (x : Int) (y : Int) = ((x ||| y : Nat) : Int) := by
  have e : bits .or .i64 (x : Int) (y : Int) = IntKind.i64.wrap ((BitVec.ofInt 64 (x : Int) ||| BitVec.ofInt 64 (y : Int)).toNat : Int) := rfl
  rw [e, BitVec.ofInt_natCast, BitVec.ofInt_natCast, BitVec.toNat_or, BitVec.toNat_ofNat, BitVec.toNat_ofNat,
    Nat.mod_eq_of_lt (by simp only [Nat.reducePow]; omega), Nat.mod_eq_of_lt (by simp only [Nat.reducePow]; omega), IntKind.wrap_i64]
  omega
theorem or_addn (k : Nat) (x y p : Nat) (hp : p = 2 ^ k) (hy : y < p) (h : x * p + y < 9223372036854775808) : bits .or .i64 ((x * p : Nat) : Int) (y : Int) = ((x * p + y : Nat) : Int) := by
  subst hp
  have e := Nat.two_pow_add_eq_or_of_lt hy x
  rw [Nat.mul_comm] at e
  rw [or32n _ _ (by omega) (by omega) (by omega), ← e]
theorem numAt_or (a b c d : Nat) (ha : a < 256) (hb : b < 256) (hc : c < 256) (hd : d < 256) :
    bits .or .i64 (bits .or .i64 (bits .or .i64 (wrap64 (wrap64 (a : Int) * 16777216)) (wrap64 (wrap64 (b : Int) * 65536))) (wrap64 (wrap64 (c : Int) * 256))) (wrap64 (d : Int)) = ((((a * 256 + b) * 256 + c) * 256 + d : Nat) : Int) := by
  have w : ∀ n : Int, 0 ≤ n → n < 9223372036854775808 → wrap64 n = n := fun n h1 h2 => by unfold wrap64; omega
  rw [w (a : Int) (by omega) (by omega), w (b : Int) (by omega) (by omega), w (c : Int) (by omega) (by omega), w (d : Int) (by omega) (by omega), w ((a : Int) * 16777216) (by omega) (by omega), w ((b : Int) * 65536) (by omega) (by omega), w ((c : Int) * 256) (by omega) (by omega)]
  have e1 : ((a : Int) * 16777216) = ((a * 16777216 : Nat) : Int) := by omega
  have e2 : ((b : Int) * 65536) = ((b * 65536 : Nat) : Int) := by omega
  have e3 : ((c : Int) * 256) = ((c * 256 : Nat) : Int) := by omega
  rw [e1, e2, e3, or_addn 24 a (b * 65536) 16777216 rfl (by omega) (by omega), show a * 16777216 + b * 65536 = (a * 256 + b) * 65536 by omega, or_addn 16 (a * 256 + b) (c * 256) 65536 rfl (by omega) (by omega),
    show (a * 256 + b) * 65536 + c * 256 = ((a * 256 + b) * 256 + c) * 256 by omega, or_addn 8 ((a * 256 + b) * 256 + c) d 256 rfl (by omega) (by omega)]
end Go.Proofs.YtpllcnpcplbobaaGreat
end
section
namespace Go.Proofs.YtpllcnpcplbobaaGreat
open Go.RowKit
/-! Frames, one behind the other, and what is read out of them. -/
def framesL : List ByteArray → ByteArray
  | [] => ⟨#[]⟩
  | r :: l => frameS r ++ framesL l
theorem framesL_snoc (l : List ByteArray) (r : ByteArray) : framesL (l ++ [r]) = framesL l ++ frameS r := by
  induction l with
  | nil => show frameS r ++ ByteArray.empty = ByteArray.empty ++ frameS r; rw [ByteArray.append_empty, ByteArray.empty_append]
  | cons a l ih => rw [List.cons_append, framesL, ih, framesL, ByteArray.append_assoc]
theorem bat_list (s : ByteArray) (i : Nat) : bat s i = ((s.data.toList[i]?).map UInt8.toNat).getD 0 := by
  unfold bat
  split
  · rename_i h
    have h' : i < s.data.toList.length := by rw [Array.length_toList]; exact h
    rw [List.getElem?_eq_getElem h']
    simp
    rfl
  · rename_i h
    rw [List.getElem?_eq_none (by rw [Array.length_toList]; exact Nat.le_of_not_lt h)]
    rfl
theorem bat_right (a b : ByteArray) (i : Nat) : bat (a ++ b) (a.size + i) = bat b i := by
  have e : (a ++ b).data.toList = a.data.toList ++ b.data.toList := by simp
  have hs : a.size = a.data.toList.length := by rw [Array.length_toList]; rfl
  rw [bat_list, bat_list, e, hs, List.getElem?_append_right (Nat.le_add_right _ _), Nat.add_sub_cancel_left]
theorem bat_left (a b : ByteArray) (i : Nat) (h : i < a.size) : bat (a ++ b) i = bat a i := by
  have e : (a ++ b).data.toList = a.data.toList ++ b.data.toList := by simp
  have hs : a.size = a.data.toList.length := by rw [Array.length_toList]; rfl
  rw [bat_list, bat_list, e, List.getElem?_append_left (by omega)]
theorem bat_nums {l : List Int} (i : Nat) (h : i < l.length) : bat (strOfNums l) i = (l[i].toNat) % 256 := by
  rw [bat_list, strOfNums_data, List.getElem?_map, List.getElem?_eq_getElem h]
  simp
theorem extract_right (a b : ByteArray) (i j : Nat) : (a ++ b).extract (a.size + i) (a.size + j) = b.extract i j := by
  apply ByteArray.ext
  have hs : a.size = a.data.size := rfl
  have h1 : a.data.size + i - a.data.size = i := by omega
  have h2 : a.data.size + j - a.data.size = j := by omega
  have h0 : a.data.extract (a.data.size + i) (a.data.size + j) = #[] := by
    apply Array.extract_empty_of_size_le_start
    omega
  rw [ByteArray.data_extract, ByteArray.data_append, ByteArray.data_extract, hs, Array.extract_append, h0, h1, h2]
  simp
theorem extract_all (a : ByteArray) (n : Nat) (h : n = a.size) : a.extract 0 n = a := by
  subst h
  apply ByteArray.ext
  rw [ByteArray.data_extract]
  show a.data.extract 0 a.data.size = a.data
  exact Array.extract_size
theorem numAt_right (a b : ByteArray) : numAt (a ++ b) a.size = numAt b 0 := by
  have h0 := bat_right a b 0
  rw [Nat.add_zero] at h0
  simp only [numAt, bat_right, h0]
theorem numAt_frame (r : ByteArray) (hr : r.size < 4294967296) (b : ByteArray) : numAt (frameS r ++ b) 0 = r.size := by
  have h12 := size_head r
  have hl := length_headL r
  have hb : ∀ i, i < 4 → bat (frameS r ++ b) i = ((headL r)[i]!.toNat) % 256 := fun i hi => by
    rw [bat_left _ _ _ (by rw [size_frameS]; omega), frameS, bat_left _ _ _ (by omega), bat_nums i (by omega)]
    rw [getElem!_pos _ _ (by omega)]
  unfold numAt
  rw [hb 0 (by omega), hb 1 (by omega), hb 2 (by omega), hb 3 (by omega)]
  simp only [headL, num4, List.cons_append, List.getElem!_cons_zero, List.getElem!_cons_succ]
  omega
theorem stepAt_frame (pre r b : ByteArray) (hr : r.size ≤ 1048576) : stepAt (pre ++ (frameS r ++ b)) pre.size = some r := by
  have hn : numAt (pre ++ (frameS r ++ b)) pre.size = r.size := by rw [numAt_right, numAt_frame r (by omega)]
  have hsz : (pre ++ (frameS r ++ b)).size = pre.size + (12 + r.size + b.size) := by rw [ByteArray.size_append, ByteArray.size_append, size_frameS]
  have h12 := size_head r
  have e1 : (pre ++ (frameS r ++ b)).extract (pre.size + 12) (pre.size + 12 + r.size) = r := by
    rw [Nat.add_assoc, extract_right, frameS, ByteArray.append_assoc]
    have h := extract_right (strOfNums (headL r)) (r ++ b) 0 r.size
    rw [h12, Nat.add_zero] at h
    rw [h, extract_append_left _ _ _ (Nat.le_refl _), extract_all _ _ rfl]
  have e2 : (pre ++ (frameS r ++ b)).extract pre.size (pre.size + 12) = strOfNums (headL r) := by
    have h := extract_right pre (frameS r ++ b) 0 12
    rw [Nat.add_zero] at h
    rw [h, frameS, ByteArray.append_assoc, extract_append_left _ _ _ (by omega), extract_all _ _ h12.symm]
  unfold stepAt
  rw [hn, e1, e2, if_pos ⟨by omega, hr, by omega, rfl⟩]
theorem stepAt_front (pre r : ByteArray) (hr : r.size ≤ 1048576) (j : Nat) (hj : j < 12 + r.size) : stepAt (pre ++ (frameS r).extract 0 j) pre.size = none := by
  have hsz : (pre ++ (frameS r).extract 0 j).size = pre.size + j := by rw [ByteArray.size_append, ByteArray.size_extract, size_frameS]; omega
  by_cases h12 : 12 ≤ j
  · have hn : numAt (pre ++ (frameS r).extract 0 j) pre.size = r.size := by
      have hs := size_frameS r
      have e : frameS r = (frameS r).extract 0 j ++ (frameS r).extract j (frameS r).size := by
        apply ByteArray.ext
        have h1 : (frameS r).size = (frameS r).data.size := rfl
        rw [ByteArray.data_append, ByteArray.data_extract, ByteArray.data_extract, h1]
        have h2 : max j (frameS r).data.size = (frameS r).data.size := by omega
        rw [Array.extract_append_extract, Nat.min_eq_left (Nat.zero_le _), h2]
        exact Array.extract_size.symm
      have h := numAt_frame r (by omega) ByteArray.empty
      rw [ByteArray.append_empty] at h
      have hb : ∀ i, i < 4 → bat ((frameS r).extract 0 j) i = bat (frameS r) i := fun i hi => by
        conv => rhs; rw [e]
        rw [bat_left _ _ _ (by rw [ByteArray.size_extract]; omega)]
      rw [numAt_right]
      unfold numAt at h ⊢
      rw [hb 0 (by omega), hb (0 + 1) (by omega), hb (0 + 2) (by omega), hb (0 + 3) (by omega)]
      exact h
    unfold stepAt
    rw [hn, if_neg (by omega)]
  · unfold stepAt
    rw [if_neg (by omega)]
theorem scanF_frames (r0 : ByteArray) (hr0 : r0.size ≤ 1048576) (j : Nat) (hj : j < 12 + r0.size) : ∀ (l : List ByteArray) (f : Nat) (pre : ByteArray), (∀ x ∈ l, x.size ≤ 1048576) → l.length ≤ f →
    scanF f (pre ++ (framesL l ++ (frameS r0).extract 0 j)) pre.size = (l, pre.size + (framesL l).size)
  | [], f, pre, _, _ => by
    have e : framesL [] ++ (frameS r0).extract 0 j = (frameS r0).extract 0 j := ByteArray.empty_append
    rw [e, scanF_none (stepAt_front pre r0 hr0 j hj)]
    rfl
  | r :: l, f, pre, hl, hf => by
    obtain ⟨f, rfl⟩ : ∃ f', f = f' + 1 := ⟨f - 1, by simp at hf; omega⟩
    have ih := scanF_frames r0 hr0 j hj l f (pre ++ frameS r) (fun x hx => hl x (List.mem_cons_of_mem _ hx)) (by simp at hf; omega)
    have e : pre ++ (framesL (r :: l) ++ (frameS r0).extract 0 j) = pre ++ (frameS r ++ (framesL l ++ (frameS r0).extract 0 j)) := by
      rw [framesL, ByteArray.append_assoc]
    rw [e, scanF_some (stepAt_frame pre r _ (hl r (List.mem_cons_self ..)))]
    rw [ByteArray.append_assoc, ByteArray.size_append, size_frameS, ← Nat.add_assoc] at ih
    rw [ih]
    simp only [framesL, ByteArray.size_append, size_frameS]
    congr 1
    omega
theorem size_framesL_ge : ∀ l : List ByteArray, l.length ≤ (framesL l).size
  | [] => Nat.zero_le _
  | r :: l => by
    have := size_framesL_ge l
    rw [framesL, ByteArray.size_append, size_frameS]; simp; omega
theorem scan_frames (l : List ByteArray) (hl : ∀ x ∈ l, x.size ≤ 1048576) (r0 : ByteArray) (hr0 : r0.size ≤ 1048576) (j : Nat) (hj : j < 12 + r0.size) :
    scan (framesL l ++ (frameS r0).extract 0 j) = (l, (framesL l).size) := by
  have h := scanF_frames r0 hr0 j hj l ((framesL l ++ (frameS r0).extract 0 j).size + 1) ByteArray.empty hl (by
    have := size_framesL_ge l
    rw [ByteArray.size_append]; omega)
  rw [ByteArray.empty_append] at h
  have h0 : ByteArray.empty.size = 0 := rfl
  rw [h0, Nat.zero_add] at h
  exact h
end Go.Proofs.YtpllcnpcplbobaaGreat
end
