import Derived.Test.YtpllcnpcplbobaaGreatM20
import Derived.Test.YtpllcnpcplbobaaGreatM02
import Derived.Test.YtpllcnpcplbobaaGreatM07
namespace Go.Proofs.YtpllcnpcplbobaaGreat
open Go.RowKit
set_option maxRecDepth 100000 in
set_option maxHeartbeats 1000000 in
theorem rwhole_any (s : ByteArray) (hs : s.size ≤ 70368744177664) (w : World) :
    Calls Tryz.prog 73 #[.string s] w fun e w' => ∃ v, e = .returned v ∧
      OwnM w' w.heap.size 5 v (Sha.u8s (Sha.padded (Sha.bytesI s) s.size)) ∧ Below w.heap.size w w' := by
  obtain ⟨R, hR⟩ : ∃ R, R = Sha.bytesI s := ⟨_, rfl⟩
  have hRl : R.length = s.size := by rw [hR, Sha.length_bytesI]
  have kb := fun W => Lib.run_convert_string_bytes (P := Tryz.prog) W 9 75 5 s Tryz.underlying9 Tryz.underlying75 Tryz.underlying5
  obtain ⟨i0, hi, hz0, hz1, hz2⟩ := info_parts info5
  have HI := Lib.hid hi
  have HZ0 := Lib.hid hz0
  have HZ1 := Lib.hid hz1
  have HZ2 := Lib.hid hz2
  have HR := Lib.hid hR
  have HRL := Lib.hid hRl
  have hst : Lib.strCells s = Sha.u8s R := by
    rw [hR]
    apply List.ext_getElem
    · rw [Lib.strCells_length, Sha.length_u8s, Sha.length_bytesI]
    · intro i h1 h2; simp [Lib.strCells, Sha.u8s, Sha.bytesI]
  have HST := Lib.hid hst
  have hown0 := (OwnM.bytes w w.heap.size 5 s (Nat.le_refl _) (by simp only [maxLen]; omega))
  rw [hst] at hown0
  have HO0 := Lib.hid hown0
  clear hi hz0 hz1 hz2 hst hown0 hR hRl
  go_enter Tryz.func73, Tryz.ntmps73
  go_wp2_with (at_builtin; go_must (refine wpList_append_m _ rfl _ _ 75 rfl w.heap.size 5 i0 (.int .u8 0) Tryz.underlying75 HI.out HZ0.out HZ1.out rfl _ (Sha.u8s R) rfl (HO0.out.alloc _) ⟨_, 0, none⟩ 1 (.int .u8 128) rfl (cell_new1 _ _ _) rfl ?h1 ?h2 ?h3 ?h4))
  case h1 => rw [Sha.length_u8s, HRL.out]; simp only [maxLen]; omega
  case h2 => rw [Sha.length_u8s, HRL.out, HZ2.out]; omega
  case h3 => rw [World.size_alloc, Lib.bytesWorld_size]; omega
  intro v1 w1 hown1 hgrow1
  have e5 : Sha.u8s R ++ [Value.int .u8 128] = Sha.u8s (R ++ [128]) := by simp [Sha.u8s]
  rw [e5] at hown1
  have hbel1 : Below w.heap.size w w1 := by
    refine below_grow (B := w.heap.size) (w := (Lib.bytesWorld w 5 s).alloc _) ?_ hgrow1 (fun g e => HO0.out.base g (by simpa [Value.ownBlock, HRL.out] using e)) (by rw [World.size_alloc, Lib.bytesWorld_size]; omega)
    refine Below.alloc ?_ (by rw [Lib.bytesWorld_size]; omega) _
    exact ⟨rfl, rfl, rfl, by rw [Lib.bytesWorld_size]; omega, fun k hk => Lib.bytesWorld_at_old _ _ _ _ hk⟩
  have HB1 := Lib.hid hbel1
  have HO1 := Lib.hid hown1
  clear hbel1 hown1 hgrow1 e5 kb
  go_wp2_with fail
  go_loopg [3] (Sha.zs s.size) (fun gk v wr => ∃ m : Nat, gk + m = Sha.zs s.size ∧ OwnM wr w.heap.size 5 v (Sha.u8s (Sha.pad0 R m)) ∧ Below w.heap.size w wr)
  case atStart => exact ⟨0, rfl, by simpa [Sha.pad0] using HO1.out, HB1.out⟩
  case round =>
    clear HO1 HB1
    obtain ⟨m, hm, hown, hbel⟩ := hrel
    obtain ⟨gt, cap, hv, hgt, hcap, hgts, htc⟩ := hown.cell
    rw [Sha.length_u8s, Sha.length_pad0, HRL.out] at hv hcap
    have HOWN := Lib.hid hown
    have HBEL := Lib.hid hbel
    have hszr := hbel.size
    subst hv
    by_cases hlm : m < Sha.zs s.size
    · have ht1 := Sha.zs_not s.size m hlm
      have hzl := Sha.zs_lt s.size
      have ht : (((s.size : Int) + 1 + (m : Int)) % 64 != 56) = true := by rw [bne_iff_ne]; omega
      have HM := Lib.hid hm
      clear hown htc hm ht1 hbel
      go_wp2_with (at_builtin; go_must (refine wpList_append_m _ rfl _ _ 75 rfl w.heap.size 5 i0 (.int .u8 0) Tryz.underlying75 HI.out HZ0.out HZ1.out rfl _ (Sha.u8s (Sha.pad0 R m)) rfl (HOWN.out.alloc _) ⟨_, 0, none⟩ 1 (.int .u8 0) rfl (cell_new1 _ _ _) rfl ?g1 ?g2 ?g3 ?g4))
      case g1 => rw [Sha.length_u8s, Sha.length_pad0, HRL.out]; simp only [maxLen]; omega
      case g2 => rw [Sha.length_u8s, Sha.length_pad0, HRL.out, HZ2.out]; omega
      case g3 => simp; omega
      intro v' w' hown' hgrow'
      have HO' := Lib.hid hown'
      have HG' := Lib.hid hgrow'
      clear hown' hgrow'
      go_wp2
      go_roundg (gk - 1)
      case measure => have := HM.out; omega
      case rel =>
        have hm := HM.out
        exact ⟨m + 1, by omega, by rw [← Sha.pad0_succ]; exact HO'.out, below_grow (HBEL.out.alloc (by omega) _) HG'.out HOWN.out.base (by simp; omega)⟩
    · have hmz : m = Sha.zs s.size := by omega
      have ht : (((s.size : Int) + 1 + (m : Int)) % 64 != 56) = false := by have := Sha.zs_end s.size; rw [← hmz] at this; simp; omega
      have hzl := Sha.zs_lt s.size
      have hm64 : m < 64 := by omega
      have HMZ := Lib.hid hmz
      clear hown htc hm hmz hzl hbel
      obtain ⟨wo, rfl⟩ : ∃ wo : World, wo = wr := ⟨_, rfl⟩
      go_wp2_with fail
      go_loopw [3, 5] (fun v i wr => ∃ k : Nat, k ≤ 8 ∧ i = .int .i64 (7 - (k : Int)) ∧ OwnM wr w.heap.size 5 v (Sha.u8s (Sha.pad0 R m ++ Sha.lenTo s.size k)) ∧ Below w.heap.size w wr)
        (fun _ i _ => (intOf i + 1).toNat)
      case atStart => exact ⟨0, by omega, rfl, by simpa [Sha.lenTo] using HOWN.out, HBEL.out⟩
      case round =>
        clear HOWN HBEL hszr hgts
        obtain ⟨k, hk, rfl, hown, hbel⟩ := hrel
        have hszr := hbel.size
        have HOWN := Lib.hid hown
        have HBEL := Lib.hid hbel
        obtain ⟨gt2, cap2, hv, hgt2, hcap2, hgts2, htc⟩ := hown.cell
        rw [Sha.length_u8s, List.length_append, Sha.length_pad0, Sha.length_lenTo, HRL.out] at hv hcap2
        subst hv
        clear hown htc hbel
        by_cases hlk : k < 8
        · go_wp2_with (at_builtin; go_must (refine wpList_append_m _ rfl _ _ 75 rfl w.heap.size 5 i0 (.int .u8 0) Tryz.underlying75 HI.out HZ0.out HZ1.out rfl _ (Sha.u8s (Sha.pad0 R m ++ Sha.lenTo s.size k)) rfl (HOWN.out.alloc _) ⟨_, 0, none⟩ 1 _ rfl (cell_new1 _ _ _) rfl ?k1 ?k2 ?k3 ?k4))
          case k1 => rw [Sha.length_u8s, List.length_append, Sha.length_pad0, Sha.length_lenTo, HRL.out]; simp only [maxLen]; omega
          case k2 => rw [Sha.length_u8s, List.length_append, Sha.length_pad0, Sha.length_lenTo, HRL.out, HZ2.out]; omega
          case k3 => simp; omega
          intro v' w' hown' hgrow'
          have HO' := Lib.hid hown'
          have HG' := Lib.hid hgrow'
          clear hown' hgrow'
          go_wp2
          go_roundw
          case measure => simp [intOf]; omega
          case rel =>
            refine ⟨k + 1, by omega, by go_num, ?_, below_grow (HBEL.out.alloc (by omega) _) HG'.out HOWN.out.base (by simp; omega)⟩
            have h := HO'.out
            have e : (s.size : Int) * 8 / 2 ^ (8 * (7 - k)) % 256 = Sha.lenByte s.size k := by
              rw [Sha.lenByte, Int.mul_comm, show 8 * (7 - k) = 56 - 8 * k by omega]
            rw [Sha.lenTo_succ, ← List.append_assoc]
            rw [e] at h
            simpa [Sha.u8s] using h
        · have hk8 : k = 8 := by omega
          subst hk8
          go_wp2_with fail
          go_ret
          refine ⟨_, rfl, ?_, HBEL.out⟩
          have e : Sha.padded (Sha.bytesI s) s.size = Sha.pad0 R m ++ Sha.lenTo s.size 8 := by rw [← HR.out, Sha.padded, HRL.out, ← HMZ.out]
          rw [e]
          exact HOWN.out
theorem u32row (w : World) (base : Nat) (hb : base ≤ w.heap.size) (S : List Int) (hS : S.length = 8) : OwnM (w.alloc (.cells (W32 S).toArray 119)) base 119 (.slice (some ⟨w.heap.size, 0, none⟩) 8 8) (W32 S) :=
  ⟨w.heap.size, 8, _, (0, 0), by rw [length_W32, hS], hb, heap_alloc_new _ _, .inl rfl, by rw [length_W32, hS]; exact Nat.le_refl _, by decide, by simp [length_W32, hS], by simp⟩
set_option maxRecDepth 100000 in
set_option maxHeartbeats 1000000 in
theorem rsum_any (s : ByteArray) (hs : s.size ≤ 70368744177664) (w : World) :
    Calls Tryz.prog 65 #[.string s] w fun e w' => e = .returned (.agg (Sha.u8s (Sha.sum (Sha.bytesI s))).toArray) ∧ Below w.heap.size w w' := by
  go_enter Tryz.func65, Tryz.ntmps65
  go_wp2_with (go_at_call 73; refine (rwhole_any s hs _).mono ?_; rintro e w1 ⟨v, rfl, hown, hbel⟩; have HO := Lib.hid hown; have HB := Lib.hid hbel; clear hown hbel)
  have hown := HO.out
  have hbel := HB.out
  obtain ⟨gb, capb, hv, hgb, hcb, hgs, hcell⟩ := hown.cell
  obtain ⟨P, hP⟩ : ∃ P, P = Sha.padded (Sha.bytesI s) s.size := ⟨_, rfl⟩
  rw [← hP] at hv hcb hcell
  rw [Sha.length_u8s] at hv hcb
  subst hv
  have hPl : P.length = s.size + 1 + Sha.zs s.size + 8 := by rw [hP, Sha.length_padded, Sha.length_bytesI]
  have hP64 : P.length % 64 = 0 := by have := Sha.zs_end s.size; omega
  have hzl := Sha.zs_lt s.size
  have hPb : Sha.IsBytes P := by rw [hP]; exact Sha.isBytes_pad (Sha.isBytes_bytesI s)
  obtain ⟨T, hT⟩ : ∃ T, T = P.length := ⟨_, rfl⟩
  have hTl : T ≤ 70368744177664 + 100 := by omega
  have hT64 : T % 64 = 0 := by omega
  rw [← hT] at hcb ⊢
  have e0 : w1.heap[w.heap.size]? = _ := (hbel.block w.heap.size (by simp; omega)).trans (heap_alloc2_old _ _ _)
  have e1 : w1.heap[w.heap.size + 1]? = some (.cells (W32 Sha.H0).toArray 119 (0, 0)) := (hbel.block (w.heap.size + 1) (by simp)).trans (heap_alloc2_new _ _ _)
  have hsz1 : w.heap.size + 2 ≤ w1.heap.size := by have := hbel.size; simp at this; omega
  have hbw : Below w.heap.size w w1 := (((Below.refl _ _).alloc (Nat.le_refl _) _).alloc (by simp) _).trans (hbel.mono (by simp; omega))
  have h0 : ∀ i, i < 8 → w1.cell? ⟨w.heap.size + 1, i, none⟩ = some (.int .u32 (Sha.nth (Sha.blocks Sha.H0 P 0) i)) := fun i hi => by
    rw [cell_of_row _ _ _ _ _ _ e1]
    rw [List.getElem?_toArray]
    exact W32_get Sha.H0 i hi
  have HP := Lib.hid hP
  have HT := Lib.hid hT
  have HPB := Lib.hid hPb
  have HC := Lib.hid hcell
  have HBW := Lib.hid hbw
  have H0 := Lib.hid h0
  have E0 := Lib.hid e0
  clear HO HB hown hbel hgb hcell hP hPl hP64 hPb hT e1 hbw h0 hzl e0
  go_loopg [3, 5] (T / 64) (fun gk v i wr => ∃ (j g cp : Nat), gk + j = T / 64 ∧ i = .int .i64 (64 * (j : Int)) ∧ v = .slice (some ⟨g, 0, none⟩) 8 cp ∧ g ≠ w.heap.size ∧
      (∀ i, i < 8 → wr.cell? ⟨g, i, none⟩ = some (.int .u32 (Sha.nth (Sha.blocks Sha.H0 P j) i))) ∧ Below w1.heap.size w1 wr)
  case atStart => exact ⟨0, w.heap.size + 1, 8, rfl, rfl, rfl, by omega, H0.out, Below.refl _ _⟩
  case round =>
    clear H0
    obtain ⟨j, g, cp, hj, rfl, rfl, hgne, hh, hbx⟩ := hrel
    by_cases hlt : 64 * j < T
    · have hSl : (Sha.blocks Sha.H0 P j).length = 8 := by rw [Sha.length_blocks]; rfl
      have hbk := rblock_any g 0 cp gb (64 * j) (capb - 64 * j) (Sha.blocks Sha.H0 P j) (P.drop (64 * j)) hSl (Sha.isBytes_drop HPB.out _) (by omega) wr (by simpa using hh) (fun i hi => by
        refine (hbx.cell hgs).trans ?_
        rw [Sha.nth_drop]
        exact HC.out _ _ (u8s_get _ _ (by rw [← HT.out]; omega)))
      have HBK := Lib.hid hbk
      have HBX := Lib.hid hbx
      have HJ := Lib.hid hj
      clear hbk hh hbx hj
      go_wp2_with (go_at_call 74; go_must (refine (HBK.out).mono ?_; rintro e w2 ⟨v, rfl, hown, hbel⟩; have HO := Lib.hid hown; have HB := Lib.hid hbel; clear hown hbel))
      go_roundg (gk - 1)
      case measure => have := HJ.out; omega
      case rel =>
        have hj := HJ.out
        obtain ⟨g2, cp2, hv2, hg2, hc2, hgs2, hcell2⟩ := HO.out.cell
        rw [length_W32, Sha.length_block8 _ _ hSl] at hv2
        refine ⟨j + 1, g2, cp2, by omega, by go_num, hv2, ?_, fun i hi => ?_, HBX.out.trans (HB.out.mono HBX.out.size)⟩
        · have := HBX.out.size; omega
        · exact hcell2 i _ (W32_get _ _ (by rw [Sha.length_block8 _ _ hSl]; exact hi))
    · have hjT : j = T / 64 := by omega
      rw [hjT] at hh
      obtain ⟨V, hV⟩ : ∃ V, V = Sha.blocks Sha.H0 P (T / 64) := ⟨_, rfl⟩
      rw [← hV] at hh
      have HV := Lib.hid hV
      have HH := Lib.hid hh
      have HBX := Lib.hid hbx
      have hgl : g < wr.heap.size := block_lt_of_cell (hh 0 (by omega))
      clear hV hh hbx hjT hj HPB HC
      have hzero : (#[.int .u8 0, .int .u8 0, .int .u8 0, .int .u8 0, .int .u8 0, .int .u8 0, .int .u8 0, .int .u8 0, .int .u8 0, .int .u8 0, .int .u8 0, .int .u8 0, .int .u8 0, .int .u8 0, .int .u8 0, .int .u8 0, .int .u8 0, .int .u8 0, .int .u8 0, .int .u8 0, .int .u8 0, .int .u8 0, .int .u8 0, .int .u8 0, .int .u8 0, .int .u8 0, .int .u8 0, .int .u8 0, .int .u8 0, .int .u8 0, .int .u8 0, .int .u8 0] : Array Value) = (Sha.u8s (Sha.digestTo V 0)).toArray := rfl
      have hz : wr.heap[w.heap.size]? = some (.cells (Sha.u8s (Sha.digestTo V 0)).toArray 107 (0, 0)) := (HBX.out.block _ (by omega)).trans E0.out
      have HZ := Lib.hid hz
      clear hz hzero
      go_wp2_with (with_reducible refine wpList_store_rowTo rfl 107 _ _ rfl rfl wr.heap.size (Sha.u8s (Sha.digestTo V 0)).toArray (by kernel_rfl) (by kernel_rfl) 107 _ (heap_alloc_new _ _) (by kernel_rfl) (by kernel_rfl) (u8s_one _) ?_; rw [setRow_alloc])
      obtain ⟨wq, rfl⟩ : ∃ wq : World, wq = wr := ⟨_, rfl⟩
      go_loopw [7] (fun i wr => ∃ k : Nat, k ≤ 32 ∧ i = .int .i64 k ∧ wr.heap[wq.heap.size]? = some (.cells (Sha.u8s (Sha.digestTo V k)).toArray 107 (0, 0)) ∧ Below wq.heap.size wq wr)
        (fun i _ => 32 - (intOf i).toNat)
      case atStart => exact ⟨0, by omega, rfl, heap_alloc_new _ _, (Below.refl _ _).alloc (Nat.le_refl _) _⟩
      case round =>
        obtain ⟨k, hk, rfl, hd, hbel⟩ := hrel
        by_cases hlk : k < 32
        · have hcw : wr.cell? ⟨g, k / 4, none⟩ = some (.int .u32 (Sha.nth V (k / 4))) := (hbel.cell hgl).trans (HH.out _ (by omega))
          have hdl := Sha.length_digestTo V k
          have hcd : wr.cell? ⟨wq.heap.size, k, none⟩ = some (.int .u8 (Sha.nth (Sha.digestTo V k) k)) := by
            rw [cell_of_row wr _ _ _ _ _ hd]; simpa using u8s_get _ _ (by rw [hdl]; omega)
          have hfd : wr.frozen? ⟨wq.heap.size, k, none⟩ = false := frozen_of_row wr _ _ _ _ hd
          clear hdl
          go_wp2
          go_roundw
          case measure => simp [intOf]; omega
          case rel =>
            refine ⟨k + 1, by omega, by go_num, ?_, hbel.setCell (by simp) _⟩
            rw [heap_setCell_same wr _ _ _ _ _ hd, u8s_set]; rfl
        · have hk32 : k = 32 := by omega
          obtain ⟨D, hD⟩ : ∃ D, D = Sha.digestTo V 32 := ⟨_, rfl⟩
          rw [hk32, ← hD] at hd
          have hDs : D = Sha.sum (Sha.bytesI s) := by
            rw [hD, HV.out, Sha.sum_eq, Sha.length_bytesI, ← HP.out, HT.out]
          have hDl : D.length = 32 := by rw [hD, Sha.length_digestTo]
          have hI : (Tryz.prog.info? 107).map (·.size) = some (Sha.u8s D).toArray.size := by rw [List.size_toArray, Sha.length_u8s, hDl]; kernel_rfl
          have hS2 : (Sha.u8s (Sha.digestTo V 0)).toArray.size = (Sha.u8s D).toArray.size := by rw [List.size_toArray, List.size_toArray, Sha.length_u8s, Sha.length_u8s, hDl, Sha.length_digestTo]
          have hz : wr.heap[w.heap.size]? = some (.cells (Sha.u8s (Sha.digestTo V 0)).toArray 107 (0, 0)) := (hbel.block _ (by have := HBX.out.size; omega)).trans HZ.out
          have hbf : Below w.heap.size w wr := (HBW.out.trans (HBX.out.mono (by omega))).trans (hbel.mono (by have := HBX.out.size; omega))
          have HD := Lib.hid hd
          have HI := Lib.hid hI
          have HS2 := Lib.hid hS2
          have HZ2 := Lib.hid hz
          have HBF := Lib.hid hbf
          have HDS := Lib.hid hDs
          clear hk32 hD hd hbel hDs hDl hI hS2 hz hbf
          go_wp2_with (first | (with_reducible refine wpList_load_row rfl 107 _ rfl wq.heap.size (by kernel_rfl) 107 _ (0, 0) _ HD.out Tryz.underlying107 (by kernel_rfl) HI.out ?_) | (with_reducible refine wpList_store_rowTo rfl 107 _ _ rfl rfl w.heap.size (Sha.u8s D).toArray (by kernel_rfl) (by kernel_rfl) 107 _ HZ2.out HI.out HS2.out (u8s_one _) ?_))
          refine bodyPost_ret (results_cell_row rfl _ _ w.heap.size 107 (Sha.u8s D).toArray (0, 0) _ (by kernel_rfl) (setRow_heap _ _ _ _ _ _ HZ2.out) Tryz.underlying107 rfl HI.out) rfl ⟨by rw [← HDS.out], ?_⟩
          exact below_setRow HBF.out (Nat.le_refl _) _
end Go.Proofs.YtpllcnpcplbobaaGreat
