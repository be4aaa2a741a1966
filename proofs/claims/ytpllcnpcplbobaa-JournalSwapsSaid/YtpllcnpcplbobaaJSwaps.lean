import Derived.Test.YtpllcnpcplbobaaJr10
namespace Go.Proofs.Ytpllcnpcplbobaa
open Go.RowKit Go.Maps
set_option linter.unusedVariables false
set_option maxRecDepth 100000 in
set_option maxHeartbeats 4000000 in
theorem jswaps_any (va vb vp : Value) (A B : List ByteArray) (P : List Int) (hAm : A.length ≤ maxLen) (hBm : B.length ≤ maxLen) (hPm : P.length ≤ maxLen) (calls : Nat) (hcl : calls < 256) (w : World) (hA : TextsAt w va A) (hB : TextsAt w vb B) (hP : NumsAt w vp P) :
    Calls Try.prog 11 #[va, vb, .int .u8 (calls : Int), vp] w fun e w' => e = .returned (.bool true) ∧ Below w.heap.size w w' := by
  have hga := fun W (h : TextsAt W va A) => great_any va A (by unfold maxLen at hAm; omega) W h
  have hgb := fun W (h : TextsAt W vb B) => great_any vb B (by unfold maxLen at hBm; omega) W h
  obtain ⟨aP, cP, rfl, hPn, hPc⟩ := hP
  obtain ⟨aA, cA, rfl, hAc⟩ := hA
  obtain ⟨aB, cB, rfl, hBc⟩ := hB
  have HA := Lib.hid (show TextsAt w (.slice aA A.length cA) A from ⟨aA, cA, rfl, hAc⟩)
  have HB := Lib.hid (show TextsAt w (.slice aB B.length cB) B from ⟨aB, cB, rfl, hBc⟩)
  have HP := Lib.hid (show NumsAt w (.slice aP P.length cP) P from ⟨aP, cP, rfl, hPn, hPc⟩)
  obtain ⟨n, hn⟩ : ∃ n, n = A.length := ⟨_, rfl⟩
  obtain ⟨m, hm⟩ : ∃ m, m = B.length := ⟨_, rfl⟩
  rw [← hn] at hga HA ⊢
  rw [← hm] at hgb HB ⊢
  have HGA := Lib.hid hga
  have HGB := Lib.hid hgb
  have HN := Lib.hid hn
  have HM := Lib.hid hm
  clear hga hgb hPc hAc hBc
  have hcases : greatL A = true ∨ (greatL A = false ∧ greatL B = true) ∨ (greatL A = false ∧ greatL B = false ∧ ¬ P.length ≤ 10) ∨ (greatL A = false ∧ greatL B = false ∧ P.length ≤ 10) := by
    cases greatL A <;> cases greatL B <;> simp <;> omega
  have hA12' := fun h => (great_no (A := A) h).1
  have hB12' := fun h => (great_no (A := B) h).1
  rw [← hn] at hA12'
  rw [← hm] at hB12'
  clear hn hm
  rcases hcases with hgA | ⟨hgA, hgB⟩ | ⟨hgA, hgB, hp10⟩ | ⟨hgA, hgB, hp10⟩
  · rw [hgA] at HGA
    go_enter Try.func11, Try.ntmps11
    go_wp2_with (first | (go_at_call 18; refine (HGA.out _ HA.out).mono ?_; rintro e w1 ⟨rfl, rfl⟩; clear HGA) | (go_at_call 12; refine (fixed_any _).mono ?_; rintro e w4 ⟨rfl, hb4⟩))
    go_ret
    exact ⟨rfl, hb4⟩
  · rw [hgA] at HGA
    rw [hgB] at HGB
    go_enter Try.func11, Try.ntmps11
    go_wp2_with (first | (go_at_call 18; refine (HGA.out _ HA.out).mono ?_; rintro e w1 ⟨rfl, rfl⟩; clear HGA) | (go_at_call 18; refine (HGB.out _ HB.out).mono ?_; rintro e w1 ⟨rfl, rfl⟩; clear HGB) | (go_at_call 12; refine (fixed_any _).mono ?_; rintro e w4 ⟨rfl, hb4⟩))
    go_ret
    exact ⟨rfl, hb4⟩
  · rw [hgA] at HGA
    rw [hgB] at HGB
    go_enter Try.func11, Try.ntmps11
    go_wp2_with (first | (go_at_call 18; refine (HGA.out _ HA.out).mono ?_; rintro e w1 ⟨rfl, rfl⟩; clear HGA) | (go_at_call 18; refine (HGB.out _ HB.out).mono ?_; rintro e w1 ⟨rfl, rfl⟩; clear HGB) | (go_at_call 12; refine (fixed_any _).mono ?_; rintro e w4 ⟨rfl, hb4⟩))
    go_ret
    exact ⟨rfl, hb4⟩
  · rw [hgA] at HGA
    rw [hgB] at HGB
    obtain ⟨hA12, hA100⟩ := great_no hgA
    obtain ⟨hB12, hB100⟩ := great_no hgB
    have HA100 := Lib.hid hA100
    have HB100 := Lib.hid hB100
    clear hA12 hB12
    have hA12 := hA12' hgA
    have hB12 := hB12' hgB
    clear hA100 hB100 hgA hgB hA12' hB12'
    go_enter Try.func11, Try.ntmps11
    go_wp2_with (first | (go_at_call 18; refine (HGA.out _ HA.out).mono ?_; rintro e w1 ⟨rfl, rfl⟩; clear HGA) | (go_at_call 18; refine (HGB.out _ HB.out).mono ?_; rintro e w1 ⟨rfl, rfl⟩; clear HGB) | (go_at_call 21; refine (new_disk _).mono ?_; rintro e w2 ⟨p, b, rfl, hd2, hb2, hp2, hbb2, hpb2⟩; have D2 := Lib.hid hd2; have B2 := Lib.hid hb2; clear hd2 hb2) | (go_at_call 37; refine (open_log p b 0 (by omega) _ _ _ LogIs.fresh (by decide) _ D2.out).mono ?_; rintro e w3 ⟨j, rv3, rfl, hj3, hjw3, _, hx3, ht3⟩; obtain ⟨hl3, hd3⟩ := hx3 (by rw [scan_empty]; rfl); have L3 := Lib.hid hl3; have D3 := Lib.hid hd3; have J3 := Lib.hid hj3; have T3 := Lib.hid ht3; clear hl3 hd3 hj3 ht3 hx3))
    have hb3 : Below w.heap.size w w3 := B2.out.trans (T3.out.below hp2 hbb2 B2.out.size)
    have hL0 : LogIs (oG1 (fun x => none) (-1) logN) (framesL (A.take 0)) ((framesL (A.take 0)).size : Int) := L3.out
    have J3' := J3.out
    have D3' := D3.out
    have hwj : w.heap.size ≤ j := Nat.le_trans B2.out.size hjw3
    clear L3 D3 J3 T3 B2 D2
    go_loopw [13] (fun i wr => ∃ (k : Nat) (g : FS), k ≤ n ∧ i = .int .i64 k ∧ LogIs g (framesL (A.take k)) ((framesL (A.take k)).size : Int) ∧ DiskAt wr p b g (-1) (4 + 2 * k) ∧ JBlk wr j p logN false ∧ Below w.heap.size w wr) (fun i _ => n - (intOf i).toNat)
    case atStart => exact ⟨0, _, Nat.zero_le _, rfl, hL0, D3', J3', hb3⟩
    case round =>
      obtain ⟨k, g, hk, rfl, hLk, hDk, hJk, hBk⟩ := hrel
      clear hL0 J3' D3'
      by_cases hlt : k < n
      · have hAk : k < A.length := by rw [← HN.out]; exact hlt
        rcases HA.out with ⟨a', c', he', h0 | ⟨b1, o1, ha1, hc1⟩⟩
        · omega
        obtain rfl := (Value.slice.inj he').1.trans ha1
        have d1 : wr.cell? ⟨b1, o1 + k, none⟩ = some (.string A[k]) := (hBk.cell (World.block_lt_of_cell? _ _ (hc1 k hAk))).trans (hc1 k hAk)
        have hadd := add_ok j p b (4 + 2 * k) (by omega) g A (by rw [← HN.out]; exact hA12) HA100.out k hAk hLk
        obtain ⟨x, hx⟩ : ∃ x, x = A[k] := ⟨_, rfl⟩
        rw [← hx] at d1 hadd
        have HADD := Lib.hid hadd
        have HD := Lib.hid hDk
        have HJ := Lib.hid hJk
        have HBL := Lib.hid hBk
        clear hadd hDk hJk hx hc1 hBk hLk he'
        go_wp2_with (go_at_call 38; refine (HADD.out _ HD.out HJ.out).mono ?_; rintro e w5 ⟨rfl, ⟨g5, hl5, hd5⟩, hj5, ht5⟩; have L5 := Lib.hid hl5; have D5 := Lib.hid hd5; have J5 := Lib.hid hj5; have T5 := Lib.hid (show Below w.heap.size w w5 from HBL.out.trans ⟨ht5.os, ht5.tape, ht5.output, ht5.size, fun i hi => ht5.block i (Nat.lt_of_lt_of_le hi HBL.out.size) (by omega) (by omega) (by omega)⟩); clear hl5 hd5 hj5 ht5)
        go_roundw
        case measure => simp [intOf]; omega
        case rel => exact ⟨k + 1, g5, by omega, by go_num, L5.out, D5.out, J5.out, T5.out⟩
      · have hkn : k = A.length := by rw [← HN.out]; omega
        have hkA : A.take k = A := by rw [hkn]; simp
        rw [hkA] at hLk
        have LK := Lib.hid hLk
        have DK := Lib.hid hDk
        have JK := Lib.hid hJk
        have BK := Lib.hid hBk
        clear hLk hDk hJk hBk hkA hkn
        go_wp2_with (first | (go_at_call 22; refine (budget_disk _ _ _ _ _ _ _ DK.out).mono ?_; rintro e w4 ⟨rfl, hd4, ht4⟩; have D4 := Lib.hid hd4; have J4 := Lib.hid (JK.out.turned DK.out ht4); have B4 := Lib.hid (BK.out.trans (ht4.below hp2 hbb2 BK.out.size)); clear hd4 ht4) | (go_at_call 39; refine (swap_log j p b _ (by omega) _ _ (by omega) (by omega) _ _ LK.out _ B (by rw [← HM.out]; exact hB12) HB100.out _ D4.out J4.out (HB.out.below B4.out)).mono ?_; rintro e w5 ⟨code, rfl, hout, ht5⟩; have OUT := Lib.hid hout; have B5 := Lib.hid (B4.out.trans (ht5.below hp2 hbb2 hwj B4.out.size)); clear hout ht5) | (go_at_call 29; obtain ⟨g5, left5, D, hd5, hl5, hor⟩ := swap_split OUT.out; have HOR := Lib.hid hor; refine (crash_log p b _ (by omega) _ _ _ _ hl5 _ P _ hd5 (HP.out.below B5.out)).mono ?_; rintro e w6 ⟨q, c, rfl, ⟨g6, n6, hn1, hn2, hl6, hd6⟩, hb6, hq6, hc6⟩; rw [extract_all' D n6 (by omega)] at hl6; have L6 := Lib.hid hl6; have D6 := Lib.hid hd6; have HQ := Lib.hid hq6; have HC := Lib.hid hc6; have B6 := Lib.hid (B5.out.trans (hb6.mono B5.out.size)); clear hl6 hd6 hb6 hq6 hc6 hn1 hn2 hl5 hd5 hor) | (go_at_call 37; obtain ⟨l7, hl7, hlen7, hrow7⟩ := swap_rows HOR.out (by rw [← HN.out]; exact hA12) HA100.out (by rw [← HM.out]; exact hB12) HB100.out; refine (open_log q c _ (by omega) _ _ _ L6.out (by omega) _ D6.out).mono ?_; rintro e w7 ⟨j7, rv7, rfl, _, _, ht7, _, hT7⟩; rw [hl7] at ht7; obtain ⟨a7, c7, rfl, _⟩ := id ht7; have X7 := Lib.hid ht7; have ROW := Lib.hid hrow7; have B7 := Lib.hid (B6.out.trans (hT7.below (Nat.le_trans B5.out.size HQ.out) (Nat.le_trans B5.out.size HC.out) B6.out.size)); clear ht7 hT7 hl7 hrow7))
        have h12 := hlen7.2
        by_cases hls : l7 = B
        · have hds : decide (l7 = B) = true := decide_eq_true hls
          clear hls
          refine (same08_any _ _ l7 B (by omega) _ X7.out (HB.out.below B7.out)).mono ?_
          rintro e w8 ⟨rfl, mm, rfl⟩
          rw [hds]
          clear hds
          go_wp2_with (go_at_call 12; refine (fixed_any _).mono ?_; rintro e w9 ⟨rfl, hb9⟩)
          go_ret
          have b8 := below_drewN B7.out mm
          exact ⟨rfl, b8.trans (hb9.mono b8.size)⟩
        · have hcl : code ≠ 0 ∧ l7 = A := ROW.out.resolve_left fun h => hls h.2
          have hcb : (code != 0) = true := by simpa using hcl.1
          have hds : decide (l7 = B) = false := decide_eq_false hls
          have HDA := Lib.hid (decide_eq_true hcl.2)
          have HCL := Lib.hid hcl
          clear hls hcl
          refine (same08_any _ _ l7 B (by omega) _ X7.out (HB.out.below B7.out)).mono ?_
          rintro e w8 ⟨rfl, mm, rfl⟩
          rw [hds]
          clear hds
          go_wp2_with (first | (go_at_call 17; refine (same08_any _ _ l7 A (by omega) _ (X7.out.below (below_drewN (Below.refl _ _) mm)) (HA.out.below (below_drewN B7.out mm))).mono ?_; rintro e w10 ⟨rfl, m2, rfl⟩; rw [HDA.out]) | (go_at_call 12; refine (fixed_any _).mono ?_; rintro e w9 ⟨rfl, hb9⟩))
          go_ret
          have b8 := below_drewN B7.out (mm + m2)
          exact ⟨rfl, b8.trans (hb9.mono b8.size)⟩
end Go.Proofs.Ytpllcnpcplbobaa
