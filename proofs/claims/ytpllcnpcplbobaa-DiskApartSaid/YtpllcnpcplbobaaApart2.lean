import Derived.Test.YtpllcnpcplbobaaApart1
import Derived.Test.YtpllcnpcplbobaaRuns2
namespace Go.Proofs.Ytpllcnpcplbobaa
open Go.RowKit Go.Maps
set_option linter.unusedVariables false
attribute [local go_sem ↓] Go.wp_at_zero Go.wp_at_succ
theorem mine_beq (x : ByteArray) : (x.toList == [109, 105, 110, 101]) = decide (x = nM) := by
  rw [← text_beq, show nM.toList = [109, 105, 110, 101] by rw [ByteArray.toList_eq]; rfl]
theorem mem_mine : memB ⟨#[]⟩ [nM] = false := by decide
theorem begin_ok1 {g : FS} : beginE false g (-1) nM [nM] = 0 := by rw [beginE, mem_mine]; rfl
theorem begin_ok2 {g : FS} (h : isB g nM = true) : beginE true g (-1) nM [nM] = 0 := by rw [beginE, mem_mine, h]; rfl
theorem left_never0 : leftE 0 (-1) = -1 := rfl
set_option maxRecDepth 100000 in
set_option maxHeartbeats 4000000 in
theorem dapart_any (va : Value) (A : List ActL) (hAm : A.length ≤ 140737488351232) (d0 d1 : ByteArray) (hs0 : d0.size ≤ 140737488351232) (hs1 : d1.size ≤ 140737488351232) (w : World) (hA : ActsAt w va A) :
    Calls Try.prog 9 #[va, .agg #[.string d0, .string d1]] w fun e w' => e = .returned (.bool true) ∧ Below w.heap.size w w' := by
  obtain ⟨aa, ac, hva, hacells⟩ := hA
  subst hva
  have HA := Lib.hid (show ActsAt w (.slice aa A.length ac) A from ⟨aa, ac, rfl, hacells⟩)
  have HAC := Lib.hid hacells
  obtain ⟨na, hna⟩ : ∃ na, na = A.length := ⟨_, rfl⟩
  rw [← hna] at HA hAm ⊢
  have HNA := Lib.hid hna
  clear hacells hna
  have hgreat := fun (W : World) (hb : Below w.heap.size w W) => great7_any (.slice aa na ac) A (by rw [← HNA.out]; exact hAm) W (by
    obtain ⟨a, c, hv, h0 | ⟨b, o, ha, hc⟩⟩ := HA.out
    · exact ⟨a, c, hv, .inl h0⟩
    · exact ⟨a, c, hv, .inr ⟨b, o, ha, fun i hi => (hc i hi).below hb⟩⟩)
  have HGREAT := Lib.hid hgreat
  clear hgreat
  have hbox : ∀ W : World, Below (w.heap.size + 1) (w.alloc (.cells #[.string d0, .string d1] 47)) W → Below w.heap.size w W ∧ W.cell? ⟨w.heap.size, 0, none⟩ = some (.string d0) ∧ W.cell? ⟨w.heap.size, 1, none⟩ = some (.string d1) ∧ w.heap.size < W.heap.size := fun W hb => by
    obtain ⟨x0, x1, _, _⟩ := blk2 ((hb.block w.heap.size (by omega)).trans (heap_alloc_new w _))
    exact ⟨((Below.refl _ _).alloc (Nat.le_refl _) _).trans (hb.mono (by omega)), x0, x1, by have := hb.size; simp at this; omega⟩
  have HBX := Lib.hid hbox
  clear hbox
  by_cases hbig : 3000 < sumW A
  · have hg1 : greatN A = 1 := if_pos hbig
    have HG1 := Lib.hid hg1
    clear hg1 hbig
    go_enter Try.func9, Try.ntmps9
    go_wp2_with (first | (go_at_call 20; refine (alive_any _).mono ?_; rintro e w1 ⟨rfl, hb1⟩; have B1 := Lib.hid (show Below (w.heap.size + 1) _ w1 from hb1.mono (by simp)); clear hb1) | (go_at_call 28; refine (HGREAT.out _ (HBX.out _ B1.out).1).mono ?_; rintro e w2 ⟨rfl, hb2⟩; rw [HG1.out]; have B2 := Lib.hid hb2; clear hb2))
    go_ret
    exact ⟨rfl, (HBX.out _ B1.out).1.trans (B2.out.mono (HBX.out _ B1.out).1.size)⟩
  · have hg1 : greatN A = 0 := if_neg hbig
    have HG1 := Lib.hid hg1
    have hsw : sumW A ≤ 3000 := by omega
    clear hg1 hbig
    by_cases hmany : 500 < d0.size + d1.size
    · go_enter Try.func9, Try.ntmps9
      go_wp2_with (first | (go_at_call 20; refine (alive_any _).mono ?_; rintro e w1 ⟨rfl, hb1⟩; have B1 := Lib.hid (show Below (w.heap.size + 1) _ w1 from hb1.mono (by simp)); clear hb1) | (go_at_call 28; refine (HGREAT.out _ (HBX.out _ B1.out).1).mono ?_; rintro e w2 ⟨rfl, hb2⟩; rw [HG1.out]; have B2 := Lib.hid (B1.out.trans (hb2.mono (by have := B1.out.size; simp at this; omega))); obtain ⟨_, x0, x1, _⟩ := HBX.out _ B2.out; clear hb2))
      go_ret
      exact ⟨rfl, (HBX.out _ B2.out).1⟩
    · have hmany2 : d0.size + d1.size ≤ 500 := by omega
      obtain ⟨G0, hG0⟩ : ∃ G0 : FS, G0 = fun _ => none := ⟨_, rfl⟩
      have a1 := fun p b (W : World) h => append_disk p b 0 G0 (-1) (by omega) (by omega) (by simp only [maxLen]; omega) nM d0 (by decide) (by rw [hG0]; show 0 + d0.size ≤ _; omega) W h
      obtain ⟨G1, hG1⟩ : ∃ G1, G1 = appendG 0 G0 nM d0 := ⟨_, rfl⟩
      rw [begin_ok1, ← hG1, left_never0] at a1
      have hb1 : Bnd G1 (0 + d0.size) := by rw [hG1, hG0]; exact Bnd.none.append 0 nM d0
      have a2 := fun p b (W : World) h => sync_disk p b 1 G1 (-1) (by omega) (by omega) (by simp only [maxLen]; omega) nM (by decide) W h
      obtain ⟨G2, hG2⟩ : ∃ G2, G2 = syncG 0 G1 nM := ⟨_, rfl⟩
      rw [begin_ok2 (by rw [hG1, isB, appendG, if_pos rfl, put_same]; rfl), ← hG2, left_never0] at a2
      have hb2 : Bnd G2 (0 + d0.size) := by rw [hG2]; exact hb1.sync 0 nM
      have a3 := fun p b (W : World) h => append_disk p b 2 G2 (-1) (by omega) (by omega) (by simp only [maxLen]; omega) nM d1 (by decide) (by have := (hb2.get nM).2.2; omega) W h
      obtain ⟨G3, hG3⟩ : ∃ G3, G3 = appendG 0 G2 nM d1 := ⟨_, rfl⟩
      rw [begin_ok1, ← hG3, left_never0] at a3
      have hat : G3 nM = some (d0 ++ d1, (d0.size : Int)) := by rw [hG3, hG2, hG1, hG0]; exact startG_at d0 d1
      have hbn : Bnd G3 (d0.size + d1.size) := by have := startG_bnd d0 d1; rw [Nat.zero_add] at this; rw [hG3, hG2, hG1, hG0]; exact this
      unfold nM at a1 a2 a3
      have A1 := Lib.hid a1
      have A2 := Lib.hid a2
      have A3 := Lib.hid a3
      have HAT := Lib.hid hat
      have HBN := Lib.hid hbn
      have HG0 := Lib.hid hG0
      clear a1 a2 a3 hat hbn hb1 hb2 hG0 hG1 hG2 hG3 hmany
      go_enter Try.func9, Try.ntmps9
      go_wp2_with (first | (go_at_call 20; refine (alive_any _).mono ?_; rintro e w1 ⟨rfl, hb1⟩; have B1 := Lib.hid (show Below (w.heap.size + 1) _ w1 from hb1.mono (by simp)); clear hb1) | (go_at_call 28; refine (HGREAT.out _ (HBX.out _ B1.out).1).mono ?_; rintro e w2 ⟨rfl, hb2⟩; rw [HG1.out]; have B2 := Lib.hid (B1.out.trans (hb2.mono (by have := B1.out.size; simp at this; omega))); obtain ⟨_, x0, x1, hz2⟩ := HBX.out _ B2.out; clear hb2) | (go_at_call 21; refine (new_disk _).mono ?_; rintro e w3 ⟨p, b, rfl, hd3, hb3, hp, hb, hpb⟩; have D3 := Lib.hid hd3; have B3 := Lib.hid (B2.out.trans (hb3.mono (by omega))); obtain ⟨_, x0, x1, hz3⟩ := HBX.out _ B3.out; have hp1 : w.heap.size + 1 ≤ p := (by omega); have hb1 : w.heap.size + 1 ≤ b := (by omega); clear hd3 hb3 hp hb hpb) | (go_at_call_of 23 (Value.string d0); refine (A1.out p b _ (by rw [HG0.out]; exact D3.out)).mono ?_; rintro e w4 ⟨rfl, hd4, ht4⟩; have D4 := Lib.hid hd4; have B4 := Lib.hid (B3.out.trans (ht4.below hp1 hb1 (by omega))); have hz4 := ht4.size; clear hd4 ht4) | (go_at_call 24; refine (A2.out p b _ D4.out).mono ?_; rintro e w5 ⟨rfl, hd5, ht5⟩; have D5 := Lib.hid hd5; have B5 := Lib.hid (B4.out.trans (ht5.below hp1 hb1 (by omega))); have hz5 := ht5.size; obtain ⟨_, x0, x1, _⟩ := HBX.out _ B5.out; clear hd5 ht5) | (go_at_call 23; refine (A3.out p b _ D5.out).mono ?_; rintro e w6 ⟨rfl, hd6, ht6⟩; have D6 := Lib.hid hd6; have B6 := Lib.hid (B5.out.trans (ht6.below hp1 hb1 (by omega))); have hz6 := ht6.size; obtain ⟨_, x0, x1, _⟩ := HBX.out _ B6.out; clear hd6 ht6))
      clear x0 x1 A1 A2 A3 HGREAT HG1 B1 B2 B3 B4 B5
      go_loopw [47] (fun i wr => ∃ (k : Nat) (g : FS), k ≤ na ∧ i = .int .i64 k ∧ DiskAt wr p b g (-1) (k + 3) ∧ g nM = some (d0 ++ d1, (d0.size : Int)) ∧ Bnd g (500 + sumW (A.take k)) ∧ Below (w.heap.size + 1) (w.alloc (.cells #[.string d0, .string d1] 47)) wr) (fun i _ => na - (intOf i).toNat)
      case atStart => exact ⟨0, G3, by omega, rfl, D6.out, HAT.out, HBN.out.mono (by omega), B6.out⟩
      case round =>
        obtain ⟨k, g, hk, rfl, hd, hgm, hbn, hbw0⟩ := hrel
        obtain ⟨hbw, x0, x1, hzw⟩ := HBX.out _ hbw0
        clear D3 D4 D5 D6 B6 HAT HBN hz2 hz3 hz4 hz5 hz6
        by_cases hlt : k < na
        · have hAk : k < A.length := by rw [← HNA.out]; exact hlt
          rcases HAC.out with h0 | ⟨b1, o1, rfl, hc1⟩
          · omega
          have hat := (hc1 k hAk).below hbw
          obtain ⟨x, hx⟩ : ∃ x, x = A[k] := ⟨_, rfl⟩
          rw [← hx] at hat
          have htk : sumW (A.take (k + 1)) = sumW (A.take k) + x.weight := by rw [List.take_succ_eq_append_getElem hAk, sumW_snoc, hx]
          have hle := sumW_take A (k + 1)
          have hlk := length_le_sumW A
          obtain ⟨kd, nn, xn, tn, dt, pv, pk⟩ := x
          obtain ⟨hcell, hnum, hfit⟩ := hat
          unfold NumsAt at hnum
          dsimp only at hnum
          obtain ⟨pa2, pc2, hpv, _, _⟩ := hnum
          subst hpv
          obtain ⟨pn, hpn⟩ : ∃ pn, pn = pk.length := ⟨_, rfl⟩
          rw [← hpn] at hcell
          have e0 := hcell 0 _ rfl
          have e1 := hcell 1 _ rfl
          have e2 := hcell 2 _ rfl
          have e3 := hcell 3 _ rfl
          have e4 := hcell 4 _ rfl
          have e5 := hcell 5 _ rfl
          simp only [Nat.add_zero] at e0 e1 e2 e3 e4 e5
          obtain ⟨⟨_, hnx⟩, z1, z2, z3, z4⟩ := hfit
          simp only [ActL.weight] at z1 z2 z3 z4 htk hnx
          have hxm : xn.size ≤ maxLen := by simp only [maxLen]; omega
          have htm : tn.size ≤ maxLen := by simp only [maxLen]; omega
          have hk3 : k < 3001 := by have := HNA.out; omega
          have hgs := (hbn.get xn).2.2
          have hdtl : dt.size ≤ 3000 := by omega
          have hgt : ((g xn).getD noFile).1.size + dt.size ≤ 1099511627776 := by omega
          have HTK := Lib.hid htk
          have HBN := Lib.hid hbn
          have HBW0 := Lib.hid hbw0
          have HBW := Lib.hid hbw
          have HD := Lib.hid hd
          have HGM := Lib.hid hgm
          clear htk hbn hbw hbw0 hcell hc1 hx hd hgm hpn hle hlk hgs
          by_cases hn1 : xn = nM
          · have ht1 : (xn.toList == [109, 105, 110, 101]) = true := by rw [mine_beq]; exact decide_eq_true hn1
            clear hn1
            go_wp2_with fail
            go_ret
            exact ⟨rfl, HBW.out.alloc HBW.out.size _⟩
          · have ht1 : (xn.toList == [109, 105, 110, 101]) = false := by rw [mine_beq]; exact decide_eq_false hn1
            by_cases hn2 : tn = nM
            · have ht2 : (tn.toList == [109, 105, 110, 101]) = true := by rw [mine_beq]; exact decide_eq_true hn2
              clear hn1 hn2
              go_wp2_with fail
              go_ret
              exact ⟨rfl, HBW.out.alloc HBW.out.size _⟩
            · have ht2 : (tn.toList == [109, 105, 110, 101]) = false := by rw [mine_beq]; exact decide_eq_false hn2
              by_cases h4 : kd = 4
              · subst h4
                clear hn1 hn2
                go_wp2_with fail
                go_ret
                exact ⟨rfl, HBW.out.alloc HBW.out.size _⟩
              · have ht4 : (kd == 4) = false := by simpa using h4
                have hdo := fun (W : World) h => dob_any p b (k + 3) g (-1) (by omega) (by omega) (by simp only [maxLen]; omega) kd nn h4 xn tn dt pa2 pn pc2 pk hxm htm hgt W h
                have hg2 := (filesA_other (x := ⟨kd, nn, xn, tn, dt, .slice pa2 pn pc2, pk⟩) (g := g) (left := -1) hn1 hn2).trans HGM.out
                have hl2 := leftA_never (x := ⟨kd, nn, xn, tn, dt, .slice pa2 pn pc2, pk⟩) (g := g) h4
                have hb2 := HBN.out.act ⟨kd, nn, xn, tn, dt, .slice pa2 pn pc2, pk⟩ (-1)
                have HDO := Lib.hid hdo
                have HG2 := Lib.hid hg2
                have HL2 := Lib.hid hl2
                have HB2 := Lib.hid hb2
                clear hdo hg2 hl2 hb2 hn1 hn2 h4
                obtain ⟨G', hG'⟩ : ∃ G', G' = filesA ⟨kd, nn, xn, tn, dt, .slice pa2 pn pc2, pk⟩ g (-1) := ⟨_, rfl⟩
                have hg2 := HG2.out
                have hb2 := HB2.out
                rw [← hG'] at hg2 hb2
                have HG3 := Lib.hid hg2
                have HB3 := Lib.hid hb2
                have HGG := Lib.hid hG'
                clear hg2 hb2 hG' HG2 HB2
                go_upto_region 13 with (fail)
                go_cut [] (fun wx => DiskAt wx p b G' (-1) (k + 4) ∧ Below (w.heap.size + 1) (w.alloc (.cells #[.string d0, .string d1] 47)) wx)
                case first =>
                  have hkf : ∀ W, Below (wr.alloc (.cells #[.int .i64 kd, .int .i64 nn, .string xn, .string tn, .string dt, .slice pa2 pn pc2] 51)).heap.size (wr.alloc (.cells #[.int .i64 kd, .int .i64 nn, .string xn, .string tn, .string dt, .slice pa2 pn pc2] 51)) W →
                      W.cell? ⟨wr.heap.size, 0, none⟩ = some (.int .i64 kd) ∧ W.cell? ⟨wr.heap.size, 1, none⟩ = some (.int .i64 nn) ∧ W.cell? ⟨wr.heap.size, 2, none⟩ = some (.string xn) ∧ W.cell? ⟨wr.heap.size, 3, none⟩ = some (.string tn) ∧ W.cell? ⟨wr.heap.size, 4, none⟩ = some (.string dt) ∧ W.cell? ⟨wr.heap.size, 5, none⟩ = some (.slice pa2 pn pc2) := fun W hb => blk6 ((hb.block _ (by simp)).trans (heap_alloc_new wr _))
                  have hw0 : Below wr.heap.size wr (wr.alloc (.cells #[.int .i64 kd, .int .i64 nn, .string xn, .string tn, .string dt, .slice pa2 pn pc2] 51)) := (Below.refl _ _).alloc (Nat.le_refl _) _
                  have hplt := HD.out.lt
                  have hblt := HD.out.files.lt
                  have hkt : ∀ W W', Below (wr.alloc (.cells #[.int .i64 kd, .int .i64 nn, .string xn, .string tn, .string dt, .slice pa2 pn pc2] 51)).heap.size (wr.alloc (.cells #[.int .i64 kd, .int .i64 nn, .string xn, .string tn, .string dt, .slice pa2 pn pc2] 51)) W → Turned W W' p b →
                      W'.cell? ⟨wr.heap.size, 0, none⟩ = some (.int .i64 kd) ∧ W'.cell? ⟨wr.heap.size, 1, none⟩ = some (.int .i64 nn) ∧ W'.cell? ⟨wr.heap.size, 2, none⟩ = some (.string xn) ∧ W'.cell? ⟨wr.heap.size, 3, none⟩ = some (.string tn) ∧ W'.cell? ⟨wr.heap.size, 4, none⟩ = some (.string dt) ∧ W'.cell? ⟨wr.heap.size, 5, none⟩ = some (.slice pa2 pn pc2) := fun W W' hb ht => blk6 ((ht.block _ (by have := hb.size; simp at this; omega) (by omega) (by omega)).trans ((hb.block _ (by simp)).trans (heap_alloc_new wr _)))
                  obtain ⟨Wa, hWa⟩ : ∃ Wa, Wa = wr.alloc (.cells #[.int .i64 kd, .int .i64 nn, .string xn, .string tn, .string dt, .slice pa2 pn pc2] 51) := ⟨_, rfl⟩
                  rw [← hWa] at hkf hkt hw0 ⊢
                  have KT := Lib.hid hkt
                  have KF := Lib.hid hkf
                  have HDA := Lib.hid (HD.out.below hw0)
                  have HBA := Lib.hid (HBW0.out.trans (hw0.mono (by omega)))
                  clear hkf hkt hw0 hWa x0 x1 e0 e1 e2 e3 e4 e5
                  go_region_held3 (fun W => W.cell? ⟨wr.heap.size, 0, none⟩ = some (.int .i64 kd) ∧ W.cell? ⟨wr.heap.size, 1, none⟩ = some (.int .i64 nn) ∧ W.cell? ⟨wr.heap.size, 2, none⟩ = some (.string xn) ∧ W.cell? ⟨wr.heap.size, 3, none⟩ = some (.string tn) ∧ W.cell? ⟨wr.heap.size, 4, none⟩ = some (.string dt) ∧ W.cell? ⟨wr.heap.size, 5, none⟩ = some (.slice pa2 pn pc2)) (first | exact KF.out _ (Below.refl _ _).drew | exact KF.out _ B7.out | exact KT.out _ _ B7.out T8.out) ((first
                    | (go_at_call 32; refine (rnew_any _).mono ?_; rintro e w7 ⟨rfl, hb7⟩; have B7 := Lib.hid (below_undrew hb7); clear hb7)
                    | (go_at_call 33; refine (HDO.out _ (HDA.out.below B7.out)).mono ?_; rintro e w8 ⟨q1, q2, q3, rfl, hd8, ht8⟩; have D8 := Lib.hid hd8; have T8 := Lib.hid ht8; clear hd8 ht8)))
                  all_goals
                    go_wp2_with fail
                    go_meet
                    have hd8 := D8.out
                    rw [HL2.out, ← HGG.out] at hd8
                    have hbox0 : w.heap.size + 1 ≤ (w.alloc (.cells #[.string d0, .string d1] 47)).heap.size := by simp
                    have hb7 := HBA.out.trans (B7.out.mono (by have h1 := Nat.le_trans hbox0 HBA.out.size; omega))
                    exact ⟨hd8, hb7.trans (T8.out.below hp1 hb1 (by have h1 := Nat.le_trans hbox0 hb7.size; have h2 := hb7.size; omega))⟩
                case rest =>
                  obtain ⟨hd, hbw0⟩ := hcut
                  clear x0 x1 e0 e1 e2 e3 e4 e5
                  obtain ⟨hbw, x0, x1, hzw⟩ := HBX.out _ hbw0
                  have hre := read_disk p b (k + 4) G' (-1) nM (by decide) wc hd
                  rw [read_at HG3.out] at hre
                  unfold nM at hre
                  have HRE := Lib.hid hre
                  have HD9 := Lib.hid hd
                  have HBW9 := Lib.hid hbw0
                  have ht : ((d0 ++ d1).toList == (d0 ++ d1).toList) = true := by rw [text_beq]; exact decide_eq_true rfl
                  clear hre hd hbw0 hbw
                  go_wp2_with (go_at_call 25; refine (HRE.out).mono ?_; rintro e w9 ⟨rfl, hb9⟩; have B9 := Lib.hid hb9; obtain ⟨_, x0, x1, _⟩ := HBX.out _ (HBW9.out.trans (hb9.mono (by omega))); clear hb9)
                  go_roundw
                  case measure => simp [intOf]; omega
                  case rel => exact ⟨k + 1, G', by omega, by go_num, HD9.out.below B9.out, HG3.out, HB3.out.mono (by have := HTK.out; omega), HBW9.out.trans (B9.out.mono (by omega))⟩
        · have hfok := hbn.ok (by have := sumW_take A k; omega)
          have HGM := Lib.hid hgm
          have HFOK := Lib.hid hfok
          have HD := Lib.hid hd
          have HBW0 := Lib.hid hbw0
          have hk3 : k ≤ 3001 := by have := length_le_sumW A; have := HNA.out; omega
          clear hgm hfok hd hbw0 hbw hbn
          go_wp2_with (first | (go_at_call 29; refine (crash_disk p b (k + 3) g (-1) (by omega) HFOK.out _ [] _ HD.out (numsAt_nil _)).mono ?_; rintro e w7 ⟨q, cc, l, rfl, hnm, _, hd7, hb7, hq1, hq2⟩; have hre := (read_disk q cc (k + 3) _ (-1) nM (by decide) _ hd7); rw [crash_read HFOK.out HGM.out hnm] at hre; unfold nM at hre; have HRE := Lib.hid hre; have B7 := Lib.hid hb7; clear hre hnm hd7 hb7 hq1 hq2) | (go_at_call 25; refine (HRE.out).mono ?_; rintro e w8 ⟨rfl, hb8⟩; have B8 := Lib.hid (B7.out.trans (hb8.mono B7.out.size)); obtain ⟨_, x0, x1, _⟩ := HBX.out _ (HBW0.out.trans (B8.out.mono (by omega))); clear hb8))
          go_ret
          exact ⟨rfl, (HBX.out _ (HBW0.out.trans (B8.out.mono (by omega)))).1⟩
end Go.Proofs.Ytpllcnpcplbobaa
