import Derived.Test.YtpllcnpcplbobaaDo1
namespace Go.Proofs.Ytpllcnpcplbobaa
open Go.RowKit Go.Maps
set_option linter.unusedVariables false
attribute [local go_sem ↓] Go.wp_at_zero Go.wp_at_succ
theorem do_any (p b N M : Nat) (g : FS) (left : Int) (h1 : -1 ≤ left) (h2 : left ≤ 9223372036854775807) (hN : N < maxLen) (hM : M ≤ 1099511627775) (va : Value) (kd nn : Int) (xn tn dt : ByteArray) (pa : Option Addr) (pn pc : Nat) (pk : List Int) (hx : xn.size ≤ maxLen) (hto : tn.size ≤ maxLen)
    (hsz : ((g xn).getD noFile).1.size + dt.size ≤ 1099511627776) (w : World) (hD : DiskAt w p b g left N) (hA : RefAt w va g M) :
    Calls Try.prog 33 #[.pointer (some ⟨p, 0, none⟩), .agg #[va, .int .i64 left], .agg #[.int .i64 kd, .int .i64 nn, .string xn, .string tn, .string dt, .slice pa pn pc]] w (DoPost w p b ⟨kd, nn, xn, tn, dt, .slice pa pn pc, pk⟩ g left N M) := by
  by_cases k0 : kd = 0
  · subst k0; exact do0_any p b N M g left h1 h2 hN hM va nn xn tn dt pa pn pc pk hx hto hsz w hD hA
  by_cases k1 : kd = 1
  · subst k1; exact do1_any p b N M g left h1 h2 hN hM va nn xn tn dt pa pn pc pk hx hto hsz w hD hA
  by_cases k2 : kd = 2
  · subst k2; exact do2_any p b N M g left h1 h2 hN hM va nn xn tn dt pa pn pc pk hx hto hsz w hD hA
  by_cases k3 : kd = 3
  · subst k3; exact do3_any p b N M g left h1 h2 hN hM va nn xn tn dt pa pn pc pk hx hto hsz w hD hA
  by_cases k4 : kd = 4
  · subst k4; exact do4_any p b N M g left va nn xn tn dt pa pn pc pk w hD hA
  exact do5_any p b N M g left kd ⟨k0, k1, k2, k3, k4⟩ va nn xn tn dt pa pn pc pk w hD hA
set_option maxRecDepth 100000 in
set_option maxHeartbeats 2000000 in
theorem dsame_any (p b N M : Nat) (g : FS) (left left2 : Int) (hN : N ≤ 1099511627776) (hM : M ≤ 1099511627775) (va : Value) (w : World) (hD : DiskAt w p b g left N) (hA : RefAt w va g M) :
    Calls Try.prog 35 #[.pointer (some ⟨p, 0, none⟩), .agg #[va, .int .i64 left2]] w fun e w' => e = .returned (.int .i64 1) ∧ Below w.heap.size w w' := by
  obtain ⟨l, hF, hL, hn⟩ := hA
  have hF2 := hF
  obtain ⟨a, c, rfl, ha⟩ := hF
  obtain ⟨n, hnl⟩ : ∃ n, n = l.length := ⟨_, rfl⟩
  rw [← hnl] at hn hF2 ⊢
  have HF := Lib.hid hF2
  have HL := Lib.hid hL
  have HA := Lib.hid ha
  have HNL := Lib.hid hnl
  have HD := Lib.hid (hD.below ((Below.refl _ _).alloc (Nat.le_refl _) (.cells #[.slice a n c, .int .i64 left2] 57)))
  have HF0 := Lib.hid (hF2.below ((Below.refl _ _).alloc (Nat.le_refl _) (.cells #[.slice a n c, .int .i64 left2] 57)))
  have hbox : ∀ W : World, Below (w.heap.size + 1) (w.alloc (.cells #[.slice a n c, .int .i64 left2] 57)) W → W.cell? ⟨w.heap.size, 0, none⟩ = some (.slice a n c) ∧ W.cell? ⟨w.heap.size, 1, none⟩ = some (.int .i64 left2) ∧ w.heap.size < W.heap.size := fun W hb => by
    have h1 := (hb.block w.heap.size (by omega)).trans (heap_alloc_new w _)
    obtain ⟨x0, x1, _, _⟩ := blk2 h1
    exact ⟨x0, x1, by have := hb.size; simp at this; omega⟩
  have HBX := Lib.hid hbox
  clear hD hF2 ha hL hnl hbox
  go_enter Try.func35, Try.ntmps35
  go_upto_region 1 with (fail)
  go_cut [18] (fun s wx => s = .bool false ∧ (∀ f ∈ l, f.1.size ≤ maxLen) ∧ Below (w.heap.size + 1) (w.alloc (.cells #[.slice a n c, .int .i64 left2] 57)) wx)
  case first =>
    have hz := HBX.out _ (Below.refl _ _)
    have HZ := Lib.hid hz
    clear hz
    obtain ⟨W0, hW0⟩ : ∃ W0, W0 = w.alloc (.cells #[.slice a n c, .int .i64 left2] 57) := ⟨_, rfl⟩
    rw [← hW0] at HD HF0 HZ ⊢
    have hW0s : W0.heap.size = w.heap.size + 1 := by rw [hW0]; simp
    have HBY := Lib.hid (show ∀ W, Below W0.heap.size W0 W → W.cell? ⟨w.heap.size, 0, none⟩ = some (.slice a n c) ∧ W.cell? ⟨w.heap.size, 1, none⟩ = some (.int .i64 left2) from fun W hb => by
      have h := HBX.out W (by rw [← hW0]; exact hb.mono (by omega))
      exact ⟨h.1, h.2.1⟩)
    have HW0 := Lib.hid hW0
    clear HBX hW0
    go_region_held3 (fun W => W.cell? ⟨w.heap.size, 0, none⟩ = some (.slice a n c) ∧ W.cell? ⟨w.heap.size, 1, none⟩ = some (.int .i64 left2)) (first | exact ⟨HZ.out.1, HZ.out.2.1⟩ | exact HBY.out _ C3.out | exact HBY.out _ C1.out | exact HBY.out _ C2.out) ((first
      | (go_at_call 27; refine (names_disk p b N g left hN _ (by first | exact HD.out.below C2.out | exact HD.out.below (Below.refl _ _).drew)).mono ?_; rintro e w1 ⟨v1, l1, rfl, hn1, hl1, hr1, hb1⟩; have C1 := Lib.hid (show Below W0.heap.size W0 w1 from (by first | exact C2.out.trans (hb1.mono C2.out.size) | exact ((Below.refl _ _).drew).trans hb1)); have B1 := Lib.hid hb1; have N1 := Lib.hid hn1; have T1 := Lib.hid (textsAt_owned hr1); obtain ⟨a1, c1, rfl, _⟩ := textsAt_owned hr1; have HL1 := Lib.hid hl1; clear hr1 hb1 hn1 hl1)
      | (go_at_call 53; refine (rnames_any (.slice a n c) l (by rw [← HNL.out]; omega) left2 _ (by first | exact HF0.out.below C1.out | exact HF0.out.below (Below.refl _ _).drew)).mono ?_; rintro e w2 ⟨v2, rfl, hr2, hb2⟩; have C2 := Lib.hid (show Below W0.heap.size W0 w2 from (by first | exact C1.out.trans (hb2.mono C1.out.size) | exact ((Below.refl _ _).drew).trans hb2)); have B2 := Lib.hid hb2; have ht2 := textsAt_owned hr2; obtain ⟨a2, c2, rfl, _⟩ := id ht2; rw [List.length_map] at ht2 ⊢; have T2 := Lib.hid ht2; clear hr2 hb2 ht2)
      | (go_at_call 31; refine (same01_any _ _ l1 (l.map (·.1)) (by have := HL1.out; omega) _ (by first | exact T1.out | exact T1.out.below B2.out) (by first | exact T2.out | exact T2.out.below B1.out)).mono ?_; rintro e w3 ⟨rfl, m, hm⟩; have C3 := Lib.hid (show Below W0.heap.size W0 w3 from (by rw [hm]; first | exact below_drewN C1.out _ | exact below_drewN C2.out _)); clear hm; rw [decide_eq_true (HL.out.names N1.out).symm])))
    all_goals
      go_wp2_with fail
      go_meet
      exact ⟨rfl, fun f hf => N1.out.small _ (by rw [← HL.out.names N1.out]; exact List.mem_map.2 ⟨f, hf, rfl⟩), by rw [← HW0.out]; exact C3.out.mono (by omega)⟩
  case rest =>
    obtain ⟨rfl, hsm, hb⟩ := hcut
    have HSM := Lib.hid hsm
    clear hsm
    obtain ⟨x0, x1, hsz⟩ := HBX.out _ hb
    have hdc := HD.out.below (hb.mono (by simp))
    have hwc : Below w.heap.size w wc := ((Below.refl _ _).alloc (Nat.le_refl _) _).trans (hb.mono (by omega))
    have HDC := Lib.hid hdc
    have HWC := Lib.hid hwc
    clear hb hdc hwc HBX
    go_wp2_with fail
    go_loopw [22] (fun i wr => ∃ k : Nat, k ≤ n ∧ i = .int .i64 k ∧ Below wc.heap.size wc wr) (fun i _ => n - (intOf i).toNat)
    case atStart => exact ⟨0, by omega, rfl, Below.refl _ _⟩
    case round =>
      obtain ⟨k, hk, rfl, hbel⟩ := hrel
      clear x0 x1
      have hbw := HWC.out.trans (hbel.mono (by omega))
      by_cases hlt : k < n
      · have hAk : k < l.length := by rw [← HNL.out]; exact hlt
        rcases HA.out with h0 | ⟨b1, o1, rfl, hc1⟩
        · omega
        obtain ⟨f, hf⟩ : ∃ f, f = l[k] := ⟨_, rfl⟩
        have hc := hc1 k hAk
        have hgf := HL.out.some hAk
        rw [← hf] at hc hgf
        obtain ⟨fn, fd, fs⟩ := f
        have d0 := hc 0 _ rfl
        have d1 := hc 1 _ rfl
        have d2 := hc 2 _ rfl
        simp only [Nat.add_zero] at d0 d1 d2
        replace d0 := (hbw.cell (World.block_lt_of_cell? w _ d0)).trans d0
        replace d1 := (hbw.cell (World.block_lt_of_cell? w _ d1)).trans d1
        replace d2 := (hbw.cell (World.block_lt_of_cell? w _ d2)).trans d2
        have hdr := HDC.out.below hbel
        have hre := read_disk p b N g left fn (HSM.out (fn, fd, fs) (by rw [hf]; exact List.getElem_mem hAk)) _ (hdr.below ((Below.refl _ _).alloc (Nat.le_refl _) (.cells #[.string fn, .string fd, .int .i64 fs] 91)))
        have hv : readV g fn = .tuple #[.string fd, .int .i64 0] := by
          simp only at hgf
          rw [readV, hgf]
        rw [hv] at hre
        have hfile : ∀ W : World, Below (wr.alloc (.cells #[.string fn, .string fd, .int .i64 fs] 91)).heap.size (wr.alloc (.cells #[.string fn, .string fd, .int .i64 fs] 91)) W → Below wr.heap.size wr W ∧ W.cell? ⟨wr.heap.size, 1, none⟩ = some (.string fd) := fun W hb =>
          ⟨((Below.refl _ _).alloc (Nat.le_refl _) _).trans (hb.mono (by simp)), (hb.cell (by simp)).trans (by rw [cell_of_row _ _ _ _ _ _ (heap_alloc_new wr _)]; rfl)⟩
        have HRE := Lib.hid hre
        have HFI := Lib.hid hfile
        have HBE := Lib.hid hbel
        have ht : (fd.toList == fd.toList) = true := by rw [text_beq]; exact decide_eq_true rfl
        clear hdr hc hc1 HA hf hgf hre hv hfile hbel hbw
        go_wp2_with (go_at_call 25; refine (HRE.out).mono ?_; rintro e w1 ⟨rfl, hb1⟩; obtain ⟨hb2, y1⟩ := HFI.out w1 hb1; have HB2 := Lib.hid hb2; clear hb1 hb2)
        go_roundw
        case measure => simp [intOf]; omega
        case rel => exact ⟨k + 1, by omega, by go_num, HBE.out.trans (HB2.out.mono HBE.out.size)⟩
      · have HB := Lib.hid hbw
        clear hbw hbel
        go_wp2
        go_ret
        exact ⟨rfl, HB.out⟩
end Go.Proofs.Ytpllcnpcplbobaa
