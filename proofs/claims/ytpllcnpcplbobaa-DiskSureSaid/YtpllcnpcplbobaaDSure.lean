/-
  For any acts, any two texts and any picks the statement's function answers true: what a file had as it was made sure is the beginning of what it has behind a crash, and that is the beginning of what it had.
  Conditions: none besides the function's own guard.
-/
import Derived.Test.YtpllcnpcplbobaaSure1
import Derived.Test.YtpllcnpcplbobaaRows
import Derived.WalkKit
import Derived.ProofKit
import Derived.OpenShut
import Derived.ShutString
namespace Go.Proofs.Ytpllcnpcplbobaa
open Go.RowKit Go.Maps
theorem left_never (code : Int) : leftE code (-1) = -1 := if_neg (by omega)
set_option maxRecDepth 100000 in
set_option maxHeartbeats 2000000 in
theorem dsure_any (va vp : Value) (A : List ActL) (P : List Int) (hAm : A.length ≤ 140737488351232) (name data : ByteArray) (hnm : name.size ≤ maxLen) (w : World) (hA : ActsAt w va A) (hP : NumsAt w vp P) :
    Calls Try.prog 7 #[va, .agg #[.string name, .string data], vp] w fun e w' => e = .returned (.bool true) ∧ Below w.heap.size w w' := by
  obtain ⟨pa, pc, rfl, hpc, hpcells⟩ := hP
  have HP := Lib.hid (show NumsAt w (.slice pa P.length pc) P from ⟨pa, pc, rfl, hpc, hpcells⟩)
  obtain ⟨np, hnp⟩ : ∃ np, np = P.length := ⟨_, rfl⟩
  rw [← hnp] at HP ⊢
  obtain ⟨aa, ac, hva, hacells⟩ := hA
  subst hva
  have HA := Lib.hid (show ActsAt w (.slice aa A.length ac) A from ⟨aa, ac, rfl, hacells⟩)
  have HAC := Lib.hid hacells
  obtain ⟨na, hna⟩ : ∃ na, na = A.length := ⟨_, rfl⟩
  rw [← hna] at HA hAm ⊢
  have HNA := Lib.hid hna
  clear hpc hpcells hnp hacells hna
  have hgreat := fun (W : World) (hb : Below w.heap.size w W) => great7_any (.slice aa na ac) A (by rw [← HNA.out]; exact hAm) W (by
    obtain ⟨a, c, hv, h0 | ⟨b, o, ha, hc⟩⟩ := HA.out
    · exact ⟨a, c, hv, .inl h0⟩
    · exact ⟨a, c, hv, .inr ⟨b, o, ha, fun i hi => (hc i hi).below hb⟩⟩)
  go_enter Try.func7, Try.ntmps7
  go_wp2_with (go_at_call 20; refine (alive_any _).mono ?_; rintro e w1 ⟨rfl, hb1⟩; have B1 := Lib.hid hb1; clear hb1)
  have d0 : w1.cell? ⟨w.heap.size, 0, none⟩ = some (.string name) := (B1.out.cell (by simp)).trans (by rw [cell_of_row _ _ _ _ _ _ (heap_alloc_new w _)]; rfl)
  have d1 : w1.cell? ⟨w.heap.size, 1, none⟩ = some (.string data) := (B1.out.cell (by simp)).trans (by rw [cell_of_row _ _ _ _ _ _ (heap_alloc_new w _)]; rfl)
  have hbw1 : Below w.heap.size w w1 := ((Below.refl _ _).alloc (Nat.le_refl _) _).trans (B1.out.mono (by simp))
  have HBW1 := Lib.hid hbw1
  have hs1 := hbw1.size
  clear hbw1 B1
  go_quiet (fail)
  have hgr := hgreat (w1.drewN nq) (below_drewN HBW1.out _)
  clear d0 d1
  by_cases hbig : 3000 < sumW A
  · rw [show greatN A = 1 from if_pos hbig] at hgr
    have HG := Lib.hid hgr
    clear hgr hgreat hbig
    go_wp2_with (go_at_call 28; refine (HG.out).mono ?_; rintro e w2 ⟨rfl, hb2⟩)
    go_ret
    exact ⟨rfl, (below_drewN HBW1.out _).trans (hb2.mono hs1)⟩
  · rw [show greatN A = 0 from if_neg hbig] at hgr
    have HG := Lib.hid hgr
    clear hgr hgreat
    go_wp2_with (first | (go_at_call 28; refine (HG.out).mono ?_; rintro e w2 ⟨rfl, hb2⟩; have B2 := Lib.hid hb2; clear hb2) | (go_at_call 21; refine (new_disk _).mono ?_; rintro e w3 ⟨p, b, rfl, hd3, hb3, hp, hb, hpb⟩; have D3 := Lib.hid hd3; have B3 := Lib.hid hb3; clear hd3 hb3))
    all_goals try (go_ret; exact ⟨rfl, (below_drewN HBW1.out _).trans (B2.out.mono hs1)⟩)
    have hsw : sumW A ≤ 3000 := by omega
    have hw3 : Below w.heap.size w w3 := ((below_drewN HBW1.out nq).trans (B2.out.mono hs1)).trans (B3.out.mono (by have := B2.out.size; simp at this; omega))
    have hp2 : w.heap.size ≤ p := by have := B2.out.size; simp at this; omega
    have hb2 : w.heap.size ≤ b := by have := B2.out.size; simp at this; omega
    have HW3 := Lib.hid hw3
    have hs3 := hw3.size
    clear hw3 B2 B3 HG hbig
    go_loopw [10, 50] (fun s i wr => ∃ (k : Nat) (g : FS) (sure : ByteArray), k ≤ na ∧ i = .int .i64 k ∧ s = .string sure ∧ DiskAt wr p b g (-1) k ∧ SureInv g name sure (sumW (A.take k)) ∧ Turned w3 wr p b)
      (fun _ i _ => na - (intOf i).toNat)
    case atStart => exact ⟨0, fun _ => none, ⟨#[]⟩, by omega, rfl, rfl, D3.out, sure_start name, turned_of_below (Below.refl _ _) p b⟩
    case round =>
      obtain ⟨k, g, sure, hk, rfl, rfl, hd, hinv, ht⟩ := hrel
      have hbw := HW3.out.trans (ht.below hp2 hb2 hs3)
      have hszr := ht.size
      by_cases hlt : k < na
      · have hAk : k < A.length := by rw [← HNA.out]; exact hlt
        rcases HAC.out with h0 | ⟨b1, o1, rfl, hc1⟩
        · omega
        have hat := (hc1 k hAk).below hbw
        obtain ⟨x, hx⟩ : ∃ x, x = A[k] := ⟨_, rfl⟩
        rw [← hx] at hat
        have htk : sumW (A.take (k + 1)) = sumW (A.take k) + x.weight := by rw [List.take_succ_eq_append_getElem hAk, sumW_snoc, hx]
        have hle := sumW_take A (k + 1)
        have hlk := length_le_sumW A
        obtain ⟨kd, nn, xn, tn, dt, pv, pk⟩ := x
        obtain ⟨hcell, hnum, hfit⟩ := hat
        unfold NumsAt at hnum
        dsimp only at hnum
        obtain ⟨pa2, pc2, hpv, _, _⟩ := hnum
        subst hpv
        have e0 := hcell 0 _ rfl
        have e1 := hcell 1 _ rfl
        have e2 := hcell 2 _ rfl
        have e3 := hcell 3 _ rfl
        have e4 := hcell 4 _ rfl
        have e5 := hcell 5 _ rfl
        simp only [Nat.add_zero] at e0
        obtain ⟨_, z1, z2, z3, _⟩ := hfit
        simp only [ActL.weight] at z1 z2 z3 htk
        have hxm : xn.size ≤ maxLen := by simp only [maxLen]; omega
        have HD := Lib.hid hd
        have HI := Lib.hid hinv
        have HT := Lib.hid ht
        have HTK := Lib.hid htk
        have HLE := Lib.hid hle
        have HLK := Lib.hid hlk
        have hk3 : k < 3001 := by have := HNA.out; omega
        clear hcell hc1 HAC hx hd hinv ht htk hle hbw hlk
        have hsmall := HI.out.small xn
        have hB := HLE.out
        have hB2 := HTK.out
        have hpl := HD.out.lt
        have hbl := HD.out.files.lt
        have hcopy : ∀ w4 : World, Turned (wr.alloc (.cells #[.int .i64 kd, .int .i64 nn, .string xn, .string tn, .string dt, .slice pa2 pk.length pc2] 51)) w4 p b → w4.cell? ⟨wr.heap.size, 2, none⟩ = some (.string xn) := fun w4 h =>
          (World.cell?_of_block (h.block wr.heap.size (by simp) (by omega) (by omega))).trans (by rw [cell_of_row _ _ _ _ _ _ (heap_alloc_new wr _)]; rfl)
        have HCP := Lib.hid hcopy
        clear hcopy
        by_cases k0 : kd = 0
        · subst k0
          go_wp2_with (go_at_call 23; refine (append_disk p b k g (-1) (by omega) (by omega) (by simp only [maxLen]; omega) xn dt hxm (by omega) _ (HD.out.below ((Below.refl _ _).alloc (Nat.le_refl _) _))).mono ?_; rintro e w4 ⟨rfl, hd4, ht4⟩; rw [left_never] at hd4; have D4 := Lib.hid hd4; have T4 := Lib.hid ht4; clear hd4 ht4)
          go_roundw
          case measure => simp [intOf]; omega
          case rel =>
            refine ⟨k + 1, _, sure, by omega, by go_num, rfl, D4.out, ?_, (HT.out.trans (turned_of_below ((Below.refl _ _).alloc (Nat.le_refl _) _) p b)).trans T4.out⟩
            exact (HI.out.append _ xn dt (by omega)).mono (by rw [HTK.out]; omega)
        · by_cases k1 : kd = 1
          · subst k1
            have hsy := fun (W : World) h => sync_disk p b k g (-1) (by omega) (by omega) (by simp only [maxLen]; omega) xn hxm W h
            obtain ⟨code, hcode⟩ : ∃ code, code = beginE true g (-1) xn [xn] := ⟨_, rfl⟩
            rw [← hcode, left_never] at hsy
            clear hcode
            by_cases hc0 : code = 0
            · subst hc0
              have hinv2 := HI.out.sync xn
              by_cases hxn : xn = name
              · have ht : (xn.toList == name.toList) = true := by rw [text_beq]; exact decide_eq_true hxn
                rw [if_pos hxn] at hinv2
                have hsome : (syncG 0 g xn) name = some (sureF ((g xn).getD noFile)) := by rw [syncG, if_pos rfl, ← hxn, put_same]
                have hrd : readV (syncG 0 g xn) name = .tuple #[.string ((syncG 0 g xn name).getD noFile).1, .int .i64 0] := by rw [readV, hsome]; rfl
                obtain ⟨G, hG⟩ : ∃ G, G = syncG 0 g xn := ⟨_, rfl⟩
                rw [← hG] at hsy hinv2 hrd
                have hre := fun (W : World) h => read_disk p b (k + 1) G (-1) name hnm W h
                rw [hrd] at hre
                have HSY := Lib.hid hsy
                have HRE := Lib.hid hre
                have HI2 := Lib.hid hinv2
                clear hsy hre hinv2 hsome hrd hG hxn
                go_wp2_with (first | (go_at_call 24; refine (HSY.out _ (HD.out.below ((Below.refl _ _).alloc (Nat.le_refl _) _))).mono ?_; rintro e w4 ⟨rfl, hd4, ht4⟩; have c4 := HCP.out _ ht4; have D4 := Lib.hid hd4; have T4 := Lib.hid ht4; clear hd4 ht4) | (go_at_call 25; refine (HRE.out _ D4.out).mono ?_; rintro e w5 ⟨rfl, hb5⟩; have B5 := Lib.hid hb5; clear hb5))
                go_roundw
                case measure => simp [intOf]; omega
                case rel =>
                  exact ⟨k + 1, G, _, by omega, by go_num, rfl, D4.out.below B5.out, HI2.out.mono (by rw [HTK.out]; omega), ((HT.out.trans (turned_of_below ((Below.refl _ _).alloc (Nat.le_refl _) _) p b)).trans T4.out).trans (turned_of_below B5.out p b)⟩
              · have ht : (xn.toList == name.toList) = false := by rw [text_beq]; exact decide_eq_false hxn
                rw [if_neg hxn] at hinv2
                have HSY := Lib.hid hsy
                have HI2 := Lib.hid hinv2
                clear hsy hinv2 hxn
                go_wp2_with (go_at_call 24; refine (HSY.out _ (HD.out.below ((Below.refl _ _).alloc (Nat.le_refl _) _))).mono ?_; rintro e w4 ⟨rfl, hd4, ht4⟩; have c4 := HCP.out _ ht4; have D4 := Lib.hid hd4; have T4 := Lib.hid ht4; clear hd4 ht4)
                go_roundw
                case measure => simp [intOf]; omega
                case rel =>
                  exact ⟨k + 1, _, sure, by omega, by go_num, rfl, D4.out, HI2.out.mono (by rw [HTK.out]; omega), (HT.out.trans (turned_of_below ((Below.refl _ _).alloc (Nat.le_refl _) _) p b)).trans T4.out⟩
            · have hcb : (code == 0) = false := by simpa using hc0
              rw [show syncG code g xn = g from if_neg hc0] at hsy
              have HSY := Lib.hid hsy
              clear hsy hc0
              go_wp2_with (go_at_call 24; refine (HSY.out _ (HD.out.below ((Below.refl _ _).alloc (Nat.le_refl _) _))).mono ?_; rintro e w4 ⟨rfl, hd4, ht4⟩; have c4 := HCP.out _ ht4; have D4 := Lib.hid hd4; have T4 := Lib.hid ht4; clear hd4 ht4)
              go_roundw
              case measure => simp [intOf]; omega
              case rel =>
                exact ⟨k + 1, g, sure, by omega, by go_num, rfl, D4.out, HI.out.mono (by rw [HTK.out]; omega), (HT.out.trans (turned_of_below ((Below.refl _ _).alloc (Nat.le_refl _) _) p b)).trans T4.out⟩
          · by_cases k3 : kd = 3
            · subst k3
              have hrm := fun (W : World) h => remove_disk p b k g (-1) (by omega) (by omega) xn hxm W h
              obtain ⟨code, hcode⟩ : ∃ code, code = beginE true g (-1) xn [xn] := ⟨_, rfl⟩
              rw [← hcode, left_never] at hrm
              clear hcode
              have hmo : ∀ (W : World) (g2 : FS), DiskAt W p b g2 (-1) k → DiskAt W p b g2 (-1) (k + 1) := fun W g2 h => ⟨h.cells, h.files.mono (by omega)⟩
              have HMO := Lib.hid hmo
              clear hmo
              by_cases hc0 : code = 0
              · subst hc0
                have hinv2 := HI.out.remove xn
                by_cases hxn : xn = name
                · have ht : (xn.toList == name.toList) = true := by rw [text_beq]; exact decide_eq_true hxn
                  rw [if_pos hxn] at hinv2
                  have HRM := Lib.hid hrm
                  have HI2 := Lib.hid hinv2
                  clear hrm hinv2 hxn
                  go_wp2_with (go_at_call 26; refine (HRM.out _ (HD.out.below ((Below.refl _ _).alloc (Nat.le_refl _) _))).mono ?_; rintro e w4 ⟨rfl, hd4, ht4⟩; have c4 := HCP.out _ ht4; have D4 := Lib.hid hd4; have T4 := Lib.hid ht4; clear hd4 ht4)
                  go_roundw
                  case measure => simp [intOf]; omega
                  case rel =>
                    exact ⟨k + 1, _, _, by omega, by go_num, rfl, HMO.out _ _ D4.out, HI2.out.mono (by rw [HTK.out]; omega), (HT.out.trans (turned_of_below ((Below.refl _ _).alloc (Nat.le_refl _) _) p b)).trans T4.out⟩
                · have ht : (xn.toList == name.toList) = false := by rw [text_beq]; exact decide_eq_false hxn
                  rw [if_neg hxn] at hinv2
                  have HRM := Lib.hid hrm
                  have HI2 := Lib.hid hinv2
                  clear hrm hinv2 hxn
                  go_wp2_with (go_at_call 26; refine (HRM.out _ (HD.out.below ((Below.refl _ _).alloc (Nat.le_refl _) _))).mono ?_; rintro e w4 ⟨rfl, hd4, ht4⟩; have c4 := HCP.out _ ht4; have D4 := Lib.hid hd4; have T4 := Lib.hid ht4; clear hd4 ht4)
                  go_roundw
                  case measure => simp [intOf]; omega
                  case rel =>
                    exact ⟨k + 1, _, sure, by omega, by go_num, rfl, HMO.out _ _ D4.out, HI2.out.mono (by rw [HTK.out]; omega), (HT.out.trans (turned_of_below ((Below.refl _ _).alloc (Nat.le_refl _) _) p b)).trans T4.out⟩
              · have hcb : (code == 0) = false := by simpa using hc0
                rw [show removeG code g xn = g from if_neg hc0] at hrm
                have HRM := Lib.hid hrm
                clear hrm hc0
                go_wp2_with (go_at_call 26; refine (HRM.out _ (HD.out.below ((Below.refl _ _).alloc (Nat.le_refl _) _))).mono ?_; rintro e w4 ⟨rfl, hd4, ht4⟩; have c4 := HCP.out _ ht4; have D4 := Lib.hid hd4; have T4 := Lib.hid ht4; clear hd4 ht4)
                go_roundw
                case measure => simp [intOf]; omega
                case rel =>
                  exact ⟨k + 1, g, sure, by omega, by go_num, rfl, HMO.out _ _ D4.out, HI.out.mono (by rw [HTK.out]; omega), (HT.out.trans (turned_of_below ((Below.refl _ _).alloc (Nat.le_refl _) _) p b)).trans T4.out⟩
            · have t0 : (kd == 0) = false := by simpa using k0
              have t1 : (kd == 1) = false := by simpa using k1
              have t3 : (kd == 3) = false := by simpa using k3
              clear k0 k1 k3
              go_wp2_with fail
              go_roundw
              case measure => simp [intOf]; omega
              case rel =>
                have hd4 : DiskAt (wr.alloc (.cells #[.int .i64 kd, .int .i64 nn, .string xn, .string tn, .string dt, .slice pa2 pk.length pc2] 51)) p b g (-1) k := HD.out.below ((Below.refl _ _).alloc (Nat.le_refl _) _)
                exact ⟨k + 1, g, sure, by omega, by go_num, rfl, ⟨hd4.cells, hd4.files.mono (by omega)⟩, HI.out.mono (by rw [HTK.out]; omega), HT.out.trans (turned_of_below ((Below.refl _ _).alloc (Nat.le_refl _) _) p b)⟩
      · have hkn : A.take k = A := List.take_of_length_le (by rw [← HNA.out]; omega)
        rw [hkn] at hinv
        have hne0 : 0 < name.size := by
          rcases Nat.eq_zero_or_pos name.size with h | h
          · exact absurd (ByteArray.size_eq_zero_iff.1 h) (by assumption)
          · exact h
        have hmem : memB ⟨#[]⟩ [name] = false := by
          cases h : memB ⟨#[]⟩ [name] with
          | false => rfl
          | true =>
            have := memB_iff.1 h
            simp at this
            rw [← this] at hne0
            exact absurd hne0 (by decide)
        have hcode : beginE false g (-1) name [name] = 0 := by rw [beginE, hmem]; rfl
        have hap := fun (W : World) h => append_disk p b k g (-1) (by omega) (by omega) (by simp only [maxLen]; omega) name data hnm (by have := hinv.small name; omega) W h
        rw [hcode, left_never] at hap
        have hend := fun (l : List ByteArray) (hl : NamesOf (appendG 0 g name data) l) => sure_end hinv (data := data) (by omega) (P := P) hl
        have hok := (hinv.append 0 name data (by omega)).ok
        obtain ⟨G, hG⟩ : ∃ G, G = appendG 0 g name data := ⟨_, rfl⟩
        rw [← hG] at hap hend hok
        have hsome : ∃ f, G name = some f := ⟨_, by rw [hG, appendG, if_pos rfl, put_same]⟩
        obtain ⟨f, hf⟩ := hsome
        have hrd : readV G name = .tuple #[.string f.1, .int .i64 0] := by rw [readV, hf]
        have hre := fun (W : World) h => read_disk p b (k + 1) G (-1) name hnm W h
        rw [hrd] at hre
        have hend2 : ∀ l, NamesOf G l → ∃ got : ByteArray, readV (crashG G l P).1 name = .tuple #[.string got, .int .i64 0] ∧ hasPre got sure = true ∧ hasPre f.1 got = true := fun l hl => by
          obtain ⟨got, n, h1, h2, h3⟩ := hend l hl
          rw [hf] at h3
          exact ⟨got, by rw [readV, h1], h2, h3⟩
        have HD := Lib.hid hd
        have HAP := Lib.hid hap
        have HRE := Lib.hid hre
        have HEND := Lib.hid hend2
        have HOK := Lib.hid hok
        have HT := Lib.hid ht
        have HBW := Lib.hid hbw
        have hkn3 : k ≤ 3001 := by have := length_le_sumW A; have := HNA.out; omega
        clear hinv hkn hmem hcode hap hend hok hG hf hrd hre hend2 hd ht hbw HAC
        go_wp2_with (go_at_call 23; refine (HAP.out _ HD.out).mono ?_; rintro e w4 ⟨rfl, hd4, ht4⟩; have D4 := Lib.hid hd4; have T4 := Lib.hid ht4; clear hd4 ht4)
        go_wp2_with (go_at_call 25; refine (HRE.out _ D4.out).mono ?_; rintro e w5 ⟨rfl, hb5⟩; have B5 := Lib.hid hb5; clear hb5)
        go_wp2_with (first | (go_at_call 29; refine (crash_disk p b (k + 1) G (-1) (by omega) HOK.out _ P _ (D4.out.below B5.out) ((HP.out.below (HBW.out.trans (T4.out.below hp2 hb2 (by have := HBW.out.size; omega)))).below B5.out)).mono ?_; rintro e w6 ⟨q, c, l, rfl, hnl, hln, hd6, hb6, hq, hcq⟩; obtain ⟨got, hr1, hp1, hpp⟩ := HEND.out l hnl; have NL := Lib.hid hnl; have D6 := Lib.hid hd6; have B6 := Lib.hid hb6; have R1 := Lib.hid hr1; have P1 := Lib.hid hp1; have P2 := Lib.hid hpp; clear hnl hd6 hb6 hr1 hp1 hpp) | (go_at_call 25; refine (read_disk q c _ _ _ name hnm _ D6.out).mono ?_; rintro e w7 ⟨rfl, hb7⟩; rw [R1.out]; have B7 := Lib.hid hb7; clear hb7))
        go_wp2_with (first | (go_at_call_of 30 (Value.string sure); refine (prefix_any got sure _).mono ?_; rintro e w8 ⟨rfl, rfl⟩; rw [P1.out]) | (go_at_call_of 30 (Value.string f.1); refine (prefix_any f.1 got _).mono ?_; rintro e w8 ⟨rfl, rfl⟩; rw [P2.out]))
        go_wp2_with (first | (go_at_call_of 27 (Value.pointer (some ⟨q, 0, none⟩)); refine (names_disk q c _ _ _ (by omega) _ (D6.out.below B7.out)).mono ?_; rintro e w8 ⟨v8, l8, rfl, hn8, hl8, hr8, hb8⟩; have N8 := Lib.hid hn8; have R8 := Lib.hid hr8; have B8 := Lib.hid hb8; clear hn8 hr8 hb8) | (go_at_call_of 27 (Value.pointer (some ⟨p, 0, none⟩)); refine (names_disk p b _ _ _ (by omega) _ ((((D4.out.below B5.out).below B6.out).below B7.out).below B8.out)).mono ?_; rintro e w9 ⟨v9, l9, rfl, hn9, hl9, hr9, hb9⟩; have N9 := Lib.hid hn9; have R9 := Lib.hid hr9; have B9 := Lib.hid hb9; clear hn9 hr9 hb9))
        have hll : l8 = l9 := names_unique N8.out N9.out (crash_names HOK.out NL.out)
        go_wp2_with (go_at_call 31; refine (same01_any _ _ l8 l9 (by omega) _ ((textsAt_owned R8.out).below B9.out) (textsAt_owned R9.out)).mono ?_; rintro e w10 ⟨rfl, m, rfl⟩; rw [decide_eq_true hll])
        go_ret
        have t4 := HBW.out.trans (T4.out.below hp2 hb2 (by have := HBW.out.size; omega))
        have t5 := t4.trans (B5.out.mono t4.size)
        have t6 := t5.trans (B6.out.mono t5.size)
        have t7 := t6.trans (B7.out.mono t6.size)
        have t8 := t7.trans (B8.out.mono t7.size)
        have t9 := t8.trans (B9.out.mono t8.size)
        exact ⟨rfl, below_drewN t9 _⟩
end Go.Proofs.Ytpllcnpcplbobaa
