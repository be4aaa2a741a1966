import Derived.Test.YtpllcnpcplbobaaJr8
namespace Go.Proofs.Ytpllcnpcplbobaa
open Go.RowKit Go.Maps
set_option linter.unusedVariables false
set_option maxRecDepth 100000 in
set_option maxHeartbeats 4000000 in
theorem jsure_any (va vp : Value) (A : List ByteArray) (P : List Int) (hAm : A.length ≤ maxLen) (hPm : P.length ≤ maxLen) (calls : Nat) (hcl : calls < 256) (w : World) (hA : TextsC w va A) (hP : NumsAt w vp P) :
    Calls Try.prog 10 #[va, .int .u8 (calls : Int), vp] w fun e w' => e = .returned (.bool true) ∧ Below w.heap.size w w' := by
  have hg := great_any va A (by unfold maxLen at hAm; omega) w hA.at
  obtain ⟨aP, cP, rfl, hPn, hPc⟩ := hP
  cases hgr : greatL A with
  | true =>
    rw [hgr] at hg
    have HG := Lib.hid hg
    clear hg
    go_enter Try.func10, Try.ntmps10
    go_wp2_with (first | (go_at_call 18; refine (HG.out).mono ?_; rintro e w1 ⟨rfl, rfl⟩) | (go_at_call 12; refine (fixed_any _).mono ?_; rintro e w4 ⟨rfl, hb4⟩))
    go_ret
    exact ⟨rfl, hb4⟩
  | false =>
    rw [hgr] at hg
    have HG := Lib.hid hg
    clear hg
    by_cases hp10 : P.length ≤ 10
    · obtain ⟨hA12, hA100⟩ := great_no hgr
      obtain ⟨HAt, aA, cA, rfl, hAc⟩ := hA
      have HA := Lib.hid HAt
      have HP := Lib.hid (show NumsAt w (.slice aP P.length cP) P from ⟨aP, cP, rfl, hPn, hPc⟩)
      have H100 := Lib.hid hA100
      obtain ⟨n, hn⟩ : ∃ n, n = A.length := ⟨_, rfl⟩
      rw [← hn] at hA12 hAc HA HG
      rw [← hn]
      have HN := Lib.hid hn
      clear hgr hA100 HAt hn hPc
      obtain ⟨bud, hbud⟩ : ∃ bud : Int, bud = ((calls : Int).tmod 30) := ⟨_, rfl⟩
      go_enter Try.func10, Try.ntmps10
      go_wp2_with (first | (go_at_call 18; refine (HG.out).mono ?_; rintro e w1 ⟨rfl, rfl⟩) | (go_at_call 21; refine (new_disk _).mono ?_; rintro e w2 ⟨p, b, rfl, hd2, hb2, hp2, hbb2, hpb2⟩; have D2 := Lib.hid hd2; have B2 := Lib.hid hb2; clear hd2 hb2) | (go_at_call 37; refine (open_log p b 0 (by omega) _ _ _ LogIs.fresh (by decide) _ D2.out).mono ?_; rintro e w3 ⟨j, rv3, rfl, hj3, hjw3, _, hx3, ht3⟩; obtain ⟨hl3, hd3⟩ := hx3 (by rw [scan_empty]; rfl); have L3 := Lib.hid hl3; have D3 := Lib.hid hd3; have J3 := Lib.hid hj3; have T3 := Lib.hid ht3; clear hl3 hd3 hj3 ht3 hx3) | (go_at_call 22; refine (budget_disk _ _ _ _ _ _ _ D3.out).mono ?_; rintro e w4 ⟨rfl, hd4, ht4⟩; have D4 := Lib.hid hd4; have T4 := Lib.hid ht4; clear hd4 ht4))
      have hb4 : Below w.heap.size w w4 := B2.out.trans (((T3.out.trans (T4.out)).below hp2 hbb2 B2.out.size))
      have hL4 : LogIs (oG1 (fun x => none) (-1) logN) (framesL (A.take 0)) ((framesL (A.take 0)).size : Int) := L3.out
      have J4 := J3.out.turned D3.out T4.out
      have D4' := D4.out
      have hwj : w.heap.size ≤ j := Nat.le_trans B2.out.size hjw3
      have hbl : -1 ≤ max ((calls : Int) % 30) (-1) ∧ max ((calls : Int) % 30) (-1) ≤ 9223372036854775807 := by omega
      clear L3 D3 J3 T3 T4 B2 D2
      go_loopw [11] (fun i wr => ∃ (k : Nat) (g : FS) (left : Int), k ≤ n ∧ i = .int .i64 k ∧ -1 ≤ left ∧ left ≤ 9223372036854775807 ∧ LogIs g (framesL (A.take k)) ((framesL (A.take k)).size : Int) ∧ DiskAt wr p b g left (4 + 2 * k) ∧ JBlk wr j p logN false ∧ Below w.heap.size w wr) (fun i _ => n - (intOf i).toNat)
      case atStart => exact ⟨0, _, _, Nat.zero_le _, rfl, hbl.1, hbl.2, hL4, D4', J4, hb4⟩
      case round =>
        obtain ⟨k, g, left, hk, rfl, l1, l2, hLk, hDk, hJk, hBk⟩ := hrel
        clear hL4 J4 D4' hbl
        by_cases hlt : k < n
        · have hAk : k < A.length := by rw [← HN.out]; exact hlt
          rcases HA.out with ⟨a', c', he', h0 | ⟨b1, o1, ha1, hc1⟩⟩
          · omega
          obtain rfl := (Value.slice.inj he').1.trans ha1
          have d1 : wr.cell? ⟨b1, o1 + k, none⟩ = some (.string A[k]) := (hBk.cell (World.block_lt_of_cell? _ _ (hc1 k hAk))).trans (hc1 k hAk)
          have hadd := add_next j p b (4 + 2 * k) (by omega) g left l1 l2 A (by rw [← HN.out]; exact hA12) H100.out k hAk hLk
          obtain ⟨x, hx⟩ : ∃ x, x = A[k] := ⟨_, rfl⟩
          rw [← hx] at d1 hadd
          have HADD := Lib.hid hadd
          have HD := Lib.hid hDk
          have HJ := Lib.hid hJk
          have HB := Lib.hid hBk
          clear hadd hDk hJk hx hc1 hBk hLk he'
          go_wp2_with (first | (go_at_call 38; refine (HADD.out _ HD.out HJ.out).mono ?_; rintro e w5 ⟨code, rfl, hout, ht5⟩; have OUT := Lib.hid hout; have T5 := Lib.hid (show Below w.heap.size w w5 from HB.out.trans ⟨ht5.os, ht5.tape, ht5.output, ht5.size, fun i hi => ht5.block i (Nat.lt_of_lt_of_le hi HB.out.size) (by omega) (by omega) (by omega)⟩); clear hout ht5) | (go_at_call 29; obtain ⟨g5, left5, l15, l25, hd5, hor⟩ := OUT.out; obtain ⟨_, D, s, hl5, htl⟩ := out_fail hor (by assumption); have D5 := Lib.hid hd5; have L5 := Lib.hid hl5; have TL := Lib.hid htl; have B5 := Lib.hid (T5.out); clear hd5 hl5 htl; refine (crash_log p b _ (by omega) _ _ _ _ L5.out _ P _ D5.out (HP.out.below B5.out)).mono ?_; rintro e w6 ⟨q, c, rfl, ⟨g6, n6, hn1, hn2, hl6, hd6⟩, hb6, hq6, hc6⟩; obtain ⟨m, hm1, hm2, hm3, hm4⟩ := TL.out.2 n6 hn1 hn2; rw [← HN.out] at hm4; have L6 := Lib.hid hl6; have D6 := Lib.hid hd6; have M1 := Lib.hid hm1; have HQ := Lib.hid hq6; have HC := Lib.hid hc6; have B6 := Lib.hid (B5.out.trans (hb6.mono B5.out.size)); clear hl6 hd6 hm1 hb6 hq6 hc6 hn1 hn2) | (go_at_call 37; refine (open_log q c _ (by omega) _ _ _ L6.out (by have := TL.out.1; rw [ByteArray.size_extract]; omega) _ D6.out).mono ?_; rintro e w7 ⟨j7, rv7, rfl, _, _, ht7, _, hT7⟩; rw [M1.out] at ht7; obtain ⟨a7, c7, rfl, _⟩ := id ht7; have hlen : (A.take m).length = m := (by rw [List.length_take, ← HN.out]; omega); rw [hlen] at ht7 ⊢; have X7 := Lib.hid ht7; have B7 := Lib.hid (B6.out.trans (hT7.below (Nat.le_trans B5.out.size HQ.out) (Nat.le_trans B5.out.size HC.out) B6.out.size)); clear ht7 hT7 hlen) | (go_at_call 17; refine (same08_any _ _ (A.take m) (A.take m) (by rw [List.length_take]; omega) _ X7.out (texts_take (HA.out.below B7.out) (by rw [← HN.out]; exact hm4))).mono ?_; rintro e w8 ⟨rfl, mm, rfl⟩; rw [decide_eq_true rfl]) | (go_at_call 12; refine (fixed_any _).mono ?_; rintro e w9 ⟨rfl, hb9⟩))
          case roundEnd =>
            obtain ⟨g5, left5, l15, l25, hd5, hor⟩ := OUT.out
            obtain ⟨hl5, hj5, _⟩ := out_ok hor (by assumption)
            exact ⟨⟨k + 1, g5, left5, by omega, by go_num, l15, l25, hl5, hd5, hj5, T5.out⟩, by simp [intOf]; omega⟩
          all_goals
            go_ret
            have b8 := below_drewN B7.out mm
            exact ⟨rfl, b8.trans (hb9.mono b8.size)⟩
        · go_wp2_with (first | (go_at_call 29; have D5 := Lib.hid hDk; have L5 := Lib.hid hLk; have B5 := Lib.hid hBk; have TL := Lib.hid (tail_all (by rw [← HN.out]; exact hA12) H100.out k (by rw [← HN.out]; exact hk)); clear hDk hLk hBk; refine (crash_log p b _ (by omega) _ _ _ _ L5.out _ P _ D5.out (HP.out.below B5.out)).mono ?_; rintro e w6 ⟨q, c, rfl, ⟨g6, n6, hn1, hn2, hl6, hd6⟩, hb6, hq6, hc6⟩; obtain ⟨m, hm1, hm2, hm3, hm4⟩ := TL.out.2 n6 hn1 hn2; rw [← HN.out] at hm4; have L6 := Lib.hid hl6; have D6 := Lib.hid hd6; have M1 := Lib.hid hm1; have HQ := Lib.hid hq6; have HC := Lib.hid hc6; have B6 := Lib.hid (B5.out.trans (hb6.mono B5.out.size)); clear hl6 hd6 hm1 hb6 hq6 hc6 hn1 hn2) | (go_at_call 37; refine (open_log q c _ (by omega) _ _ _ L6.out (by have := TL.out.1; rw [ByteArray.size_extract]; omega) _ D6.out).mono ?_; rintro e w7 ⟨j7, rv7, rfl, _, _, ht7, _, hT7⟩; rw [M1.out] at ht7; obtain ⟨a7, c7, rfl, _⟩ := id ht7; have hlen : (A.take m).length = m := (by rw [List.length_take, ← HN.out]; omega); rw [hlen] at ht7 ⊢; have X7 := Lib.hid ht7; have B7 := Lib.hid (B6.out.trans (hT7.below (Nat.le_trans B5.out.size HQ.out) (Nat.le_trans B5.out.size HC.out) B6.out.size)); clear ht7 hT7 hlen) | (go_at_call 17; refine (same08_any _ _ (A.take m) (A.take m) (by rw [List.length_take]; omega) _ X7.out (texts_take (HA.out.below B7.out) (by rw [← HN.out]; exact hm4))).mono ?_; rintro e w8 ⟨rfl, mm, rfl⟩; rw [decide_eq_true rfl]) | (go_at_call 12; refine (fixed_any _).mono ?_; rintro e w9 ⟨rfl, hb9⟩))
          go_ret
          have b8 := below_drewN B7.out mm
          exact ⟨rfl, b8.trans (hb9.mono b8.size)⟩
    · go_enter Try.func10, Try.ntmps10
      go_wp2_with (first | (go_at_call 18; refine (HG.out).mono ?_; rintro e w1 ⟨rfl, rfl⟩) | (go_at_call 12; refine (fixed_any _).mono ?_; rintro e w4 ⟨rfl, hb4⟩))
      go_ret
      exact ⟨rfl, hb4⟩
end Go.Proofs.Ytpllcnpcplbobaa
