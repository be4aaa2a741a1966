import Derived.Test.YtgphohkofmgdfaaDist
import Derived.Test.YtgphohkofmgdfaaCy9
namespace Go.Proofs.Ytgphohkofmgdfaa
open Go.RowKit
set_option linter.unusedVariables false
/-- A ring by a node's row: the node, and the way back from k. -/
noncomputable def ringOf (X T : List (List Int)) (n i k : Nat) : List Int :=
  if k = i then [(i : Int)] else ((i : Int) :: (k : Int) :: wayS X (stepsS T n i) (distI T i k).toNat k).dropLast
noncomputable def ringStep (X T : List (List Int)) (n i : Nat) (best : List Int) (k : Int) : List Int :=
  if distI T i k.toNat < 0 ∨ (0 < best.length ∧ (best.length : Int) ≤ distI T i k.toNat + 1) then best else ringOf X T n i k.toNat
noncomputable def ringRow (X T : List (List Int)) (n : Nat) (best : List Int) (i : Nat) : List Int := (X.getD i []).foldl (ringStep X T n i) best
/-- A shortest ring. -/
noncomputable def ringS (X T : List (List Int)) (n : Nat) : List Int := (List.range n).foldl (ringRow X T n) []
theorem NumsF.of_below {base : Nat} {w w' : World} {v : Value} {l : List Int} (h : NumsF base w v l) (hb : Below w.heap.size w w') : NumsF base w' v l := h.keep fun k _ hk => hb.block k hk
theorem far2_any (va : Value) (T : List (List Int)) (n : Nat) (hn : n ≤ 1000) (hT : Nodes n T) (tg : Nat) (htg : tg < n) (w : World) (hG : GraphR w va T) :
    Calls Try.prog 27 #[va, .int .i64 tg] w fun e w' => ∃ v, e = .returned v ∧ (∀ k, k < n → -1 ≤ distI T tg k ∧ distI T tg k ≤ 1001) ∧ NumsF w.heap.size w' v (stepsS T n tg) ∧ Below w.heap.size w w' :=
  (far_any va T n hn hT tg htg w hG).mono fun e w' ⟨v, o, he, hF, hlow, hN, hb⟩ => by
    have hk : ∀ k, k < n → o k = distI T tg k := fun k hk => farIs_eq hF (by rw [hT.1]; exact hk)
    have hS : (List.range n).map o = stepsS T n tg := List.map_congr_left fun k hk2 => hk k (List.mem_range.1 hk2)
    rw [hS] at hN
    exact ⟨v, he, fun k hk2 => by rw [← hk k hk2]; exact hlow k, hN, hb⟩
/-- The way from k: k at its head. -/
theorem way2_any (vx vs : Value) (X : List (List Int)) (n tg k : Nat) (hn : n ≤ 1000) (hX : Nodes n X) (hT : Nodes n (turnX X)) (hlow : ∀ k, k < n → -1 ≤ distI (turnX X) tg k ∧ distI (turnX X) tg k ≤ 1001) (htg : tg < n) (hk : k < n) (hd : 0 ≤ distI (turnX X) tg k) (w : World) (hG : GraphR w vx X) (hS : NumsR w vs (stepsS (turnX X) n tg)) :
    Calls Try.prog 28 #[vx, .int .i64 k, .int .i64 tg, vs] w fun e w' => ∃ v, e = .returned v ∧ NumsF w.heap.size w' v ((k : Int) :: wayS X (stepsS (turnX X) n tg) (distI (turnX X) tg k).toNat k) ∧ Below w.heap.size w w' :=
  way_any vx vs X n tg k (distI (turnX X) tg k).toNat (distI (turnX X) tg) hn hX (fun k hk => ⟨(hlow k hk).1, by have := (hlow k hk).2; omega⟩) htg hk (by omega) (leads hX hT) w hG hS
theorem stepsS_len (T : List (List Int)) (n tg : Nat) : (stepsS T n tg).length = n := by simp [stepsS]
theorem news_ints {w : World} {l : List Int} {b o : Nat} (h : ∀ i (h : i < l.length), w.cell? ⟨b, o + i, none⟩ = some (.int .i64 l[i])) : ∀ (j : Nat) (u : Value), (ints l)[j]? = some u → w.cell? ((⟨b, o, none⟩ : Addr).add j) = some u := fun j u hu => by
  have hj : j < l.length := by
    have := (List.getElem?_eq_some_iff.1 hu).1
    simpa [ints] using this
  rw [Addr.add_lit, h j hj]
  simpa [ints, hj] using hu
theorem nums_dropLast {w : World} {a : Option Addr} {c : Nat} {l : List Int} {N : Nat} (h : NumsR w (.slice a l.length c) l) (hN : N + 1 = l.length) : NumsR w (.slice a N c) l.dropLast := by
  have hl : l.dropLast.length = N := by rw [List.length_dropLast]; omega
  obtain ⟨a2, c2, e, hc, hcc⟩ := h
  injection e with e1 e2 e3
  subst e1 e3
  refine ⟨a, c, by rw [hl], by omega, ?_⟩
  rcases hcc with h0 | ⟨b, o, ha, hcell⟩
  · omega
  · refine .inr ⟨b, o, ha, fun i hi => ?_⟩
    rw [hcell i (by omega)]
    simp
theorem NumsF.some {base : Nat} {w : World} {v : Value} {l : List Int} (h : NumsF base w v l) (hl : l ≠ []) : ∃ b o c, v = .slice (some ⟨b, o, none⟩) l.length c ∧ ∀ i (h : i < l.length), w.cell? ⟨b, o + i, none⟩ = Option.some (.int .i64 l[i]) := by
  obtain ⟨a, c, hv, _, h0 | ⟨b, o, ha, _, hc⟩⟩ := h
  · exact absurd (List.eq_nil_of_length_eq_zero h0) hl
  · exact ⟨b, o, c, by rw [hv, ha], hc⟩
theorem nums_one (w : World) (x : Int) : NumsR (w.alloc (.cells #[.int .i64 x] 3)) (.slice (some ⟨w.heap.size, 0, none⟩) 1 1) [x] := by
  refine ⟨_, 1, rfl, by simp, .inr ⟨w.heap.size, 0, rfl, fun i hi => ?_⟩⟩
  obtain rfl : i = 0 := by simp at hi; omega
  rw [cell_of_row _ _ _ _ _ _ (heap_alloc_new w _)]; rfl
theorem own_one (w : World) (x : Int) : (w.alloc (.cells #[.int .i64 x] 3)).ownsRow w.heap.size 3 1 (.slice (some ⟨w.heap.size, 0, none⟩) 1 1) 1 (ints [x]) :=
  ⟨rfl, .inr ⟨w.heap.size, 1, _, rfl, Nat.le_refl _, heap_alloc_new w _, Nat.le_refl _, by decide, rfl, rfl⟩⟩
theorem wayS_len (X : List (List Int)) (S : List Int) : ∀ j a, (wayS X S j a).length = j
  | 0, _ => rfl
  | j + 1, a => by rw [wayS, List.length_cons, wayS_len]
set_option maxRecDepth 100000 in
set_option maxHeartbeats 4000000 in
theorem ring_any (va : Value) (G : List (List Int)) (hn : G.length ≤ 1000) (hr : ∀ l ∈ G, l.length ≤ 100000) (w : World) (hG : GraphR w va G) :
    Calls Try.prog 13 #[va] w fun e w' => ∃ v, e = .returned v ∧ NumsR w' v (ringS (ofX G) (turnX (ofX G)) G.length) ∧ Below w.heap.size w w' := by
  obtain ⟨i0, hi, hz0, hz1, hz2⟩ := info_parts infoI
  have HI := Lib.hid hi
  have HZ0 := Lib.hid hz0
  have HZ1 := Lib.hid hz1
  have HZ2 := Lib.hid hz2
  have hof := fun W h => of_any va G hn hr W h
  have htu := fun W h => turn_any va G hn hr W h
  have hnod := ofX_nodes hr
  have hris := ofX_rising G
  have htn := turnX_nodes hn hnod hris
  have HOF := Lib.hid hof
  have HTU := Lib.hid htu
  have HGR := Lib.hid hG
  obtain ⟨a, c, rfl, hac, hcs⟩ := hG
  obtain ⟨n, hnl⟩ : ∃ n, n = G.length := ⟨_, rfl⟩
  obtain ⟨X, hX⟩ : ∃ X, X = ofX G := ⟨_, rfl⟩
  rw [← hnl] at hn hac hnod htn HGR HOF HTU ⊢
  rw [← hX] at hnod htn HOF HTU ⊢
  have HNOD := Lib.hid hnod
  have HTN := Lib.hid htn
  clear hcs hr hnl hi hz0 hz1 hz2 hof htu hnod htn hX hris
  obtain ⟨T, hT⟩ : ∃ T, T = turnX X := ⟨_, rfl⟩
  have hway := fun (vx vs : Value) tg k h1 h2 h3 h4 W h5 h6 => way2_any vx vs X n tg k hn HNOD.out HTN.out h1 h2 h3 h4 W h5 h6
  have hfar := fun (va : Value) tg h1 W h2 => far2_any va T n hn (by rw [hT]; exact HTN.out) tg h1 W h2
  rw [← hT] at HTU HTN hway ⊢
  have HWAY := Lib.hid hway
  have HFAR := Lib.hid hfar
  clear hway hfar hT
  go_enter Try.func13, Try.ntmps13
  go_wp2_with (first | (go_at_call 22; refine (HOF.out _ HGR.out).mono ?_; rintro e w1 ⟨v1, rfl, hg1, hb1⟩; have B1 := Lib.hid hb1; have R1 := Lib.hid hg1.at; obtain ⟨a1, c1, hv1, hc1, _⟩ := id hg1; subst hv1; rw [HNOD.out.1] at hc1 ⊢; clear hb1 hg1) | (go_at_call 16; refine (HTU.out _ (HGR.out.below B1.out)).mono ?_; rintro e w2 ⟨v2, rfl, hg2, hb2⟩; have B2 := Lib.hid (B1.out.trans (hb2.mono B1.out.size)); have R1b := Lib.hid (R1.out.below hb2); have R2 := Lib.hid hg2.at; obtain ⟨a2, c2, hv2, hc2, _⟩ := id hg2; subst hv2; rw [HTN.out.1] at hc2 ⊢; clear hb2 hg2))
  have hr1 := R1b.out
  have hr2 := R2.out
  rw [HNOD.out.1] at hr1
  rw [HTN.out.1] at hr2
  have HX := Lib.hid hr1
  have HT := Lib.hid hr2
  clear hr1 hr2 R1 R1b R2 HOF HTU HGR
  go_loopw [5, 17] (fun bv iv wr => ∃ (i : Nat) (best : List Int), i ≤ n ∧ iv = .int .i64 i ∧ best = (List.range i).foldl (ringRow X T n) [] ∧ NumsR wr bv best ∧ best.length ≤ 3000 ∧ Below w2.heap.size w2 wr) (fun _ iv _ => n - (intOf iv).toNat)
  case atStart => exact ⟨0, [], by omega, rfl, rfl, numsR_nil _, by simp, Below.refl _ _⟩
  case round =>
    obtain ⟨i, best, hin, rfl, hbest, hbv, hbl, hb⟩ := hrel
    by_cases hlt : i < n
    · have hiX : i < X.length := by rw [HNOD.out.1]; exact hlt
      have hgd : X.getD i [] = X[i] := by simp [List.getD, hiX]
      have hnext : (List.range (i + 1)).foldl (ringRow X T n) [] = X[i].foldl (ringStep X T n i) best := by
        rw [List.range_succ, List.foldl_append, ← hbest]
        show ringRow X T n best i = _
        rw [ringRow, hgd]
      have hxw := HX.out.below hb
      obtain ⟨ax, cx, hvx, _, h0 | ⟨b1, o1, rfl, hc1⟩⟩ := id hxw
      · rw [HNOD.out.1] at h0; omega
      obtain rfl := (Value.slice.inj hvx).1
      obtain ⟨u, hu, hnu⟩ := hc1 i hiX
      obtain ⟨la, lc, hul, hlc, _⟩ := id hnu
      subst hul
      have hnd := HNOD.out.2 X[i] (List.getElem_mem hiX)
      obtain ⟨l, hl⟩ : ∃ l, l = X[i] := ⟨_, rfl⟩
      rw [← hl] at hu hnu hnext hnd hlc
      obtain ⟨ln, hln⟩ : ∃ ln, ln = l.length := ⟨_, rfl⟩
      rw [← hln] at hu hnu hlc
      have hln5 : ln ≤ 100000 := by rw [hln]; exact hnd.1
      have HNU := Lib.hid hnu
      have HLN := Lib.hid hln
      have HND := Lib.hid hnd
      have HNEXT := Lib.hid hnext
      have HXW := Lib.hid hxw
      have HTW := Lib.hid (HT.out.below hb)
      have HBV := Lib.hid hbv
      have HB := Lib.hid hb
      clear hc1 hnu hln hnd hnext hxw hbv hb hl hgd hbest hvx
      have hdu := hu
      go_wp2_with (go_at_call 27; refine (HFAR.out _ i hlt _ HTW.out).mono ?_; rintro e w3 ⟨v3, rfl, hlow3, hn3, hb3⟩; have LOW := Lib.hid hlow3; have hdu3 := (hb3.cell (World.block_lt_of_cell? _ _ hdu)).trans hdu; have S3 := Lib.hid hn3.at; have X3 := Lib.hid (HXW.out.below hb3); have U3 := Lib.hid (HNU.out.below hb3); have BV3 := Lib.hid (HBV.out.below hb3); have B3 := Lib.hid (HB.out.trans (hb3.mono HB.out.size)); obtain ⟨sa, sc, hv3, hsc3, _⟩ := hn3; rw [stepsS_len] at hv3 hsc3; subst hv3; clear hlow3 hb3)
      clear hu hdu hdu3 HXW HTW HNU HBV HB
      go_loopw [5, 28] (fun bv mv wr => ∃ (m : Nat) (best2 : List Int), m ≤ ln ∧ mv = .int .i64 m ∧ best2 = (l.take m).foldl (ringStep X T n i) best ∧ NumsR wr bv best2 ∧ best2.length ≤ 3000 ∧ Below w3.heap.size w3 wr) (fun _ mv _ => ln - (intOf mv).toNat)
      case atStart => exact ⟨0, best, by omega, rfl, rfl, BV3.out, hbl, Below.refl _ _⟩
      case round =>
        obtain ⟨m, best2, hm, rfl, hbest2, hbv2, hbl2, hb2⟩ := hrel
        by_cases hlm : m < ln
        · have hAm : m < l.length := by rw [← HLN.out]; exact hlm
          obtain ⟨la2, lc2, hul, _, h0 | ⟨b2, o2, hla, hc2⟩⟩ := U3.out
          · rw [← HLN.out] at h0; omega
          obtain rfl := (Value.slice.inj hul).1.trans hla
          have hk0 := hc2 m hAm
          have e1 := (hb2.cell (World.block_lt_of_cell? _ _ hk0)).trans hk0
          obtain ⟨hk1, hk3⟩ := HND.out.2 l[m] (List.getElem_mem hAm)
          have hnx2 : (l.take (m + 1)).foldl (ringStep X T n i) best = ringStep X T n i best2 l[m] := by
            rw [List.take_succ_eq_append_getElem hAm, List.foldl_append, ← hbest2]; rfl
          obtain ⟨kk, hkk⟩ := Int.eq_ofNat_of_zero_le hk1
          have hkn : kk < n := by omega
          rw [hkk] at e1 hnx2
          obtain ⟨hlo1, hlo2⟩ := LOW.out kk hkn
          obtain ⟨sa2, sc2, hss, _, h0 | ⟨bs, os, hsa, hcs⟩⟩ := S3.out
          · rw [stepsS_len] at h0; omega
          obtain rfl := (Value.slice.inj hss).1.trans hsa
          have hs0 := hcs kk (by rw [stepsS_len]; exact hkn)
          have hsv : (stepsS T n i)[kk]'(by rw [stepsS_len]; exact hkn) = distI T i kk := by simp [stepsS]
          rw [hsv] at hs0
          have e2 := (hb2.cell (World.block_lt_of_cell? _ _ hs0)).trans hs0
          have hrs : ringStep X T n i best2 (kk : Int) = if distI T i kk < 0 ∨ (0 < best2.length ∧ (best2.length : Int) ≤ distI T i kk + 1) then best2 else ringOf X T n i kk := by
            unfold ringStep
            simp only [Int.toNat_natCast]
          rw [hrs] at hnx2
          have hway := fun W h1 h2 h3 => HWAY.out (.slice (some ⟨b1, o1, none⟩) n c1) (.slice (some ⟨bs, os, none⟩) n sc) i kk LOW.out hlt hkn h1 W h2 h3
          obtain ⟨d, hd⟩ : ∃ d, d = distI T i kk := ⟨_, rfl⟩
          have hrof : ringOf X T n i kk = if kk = i then [(i : Int)] else ((i : Int) :: (kk : Int) :: wayS X (stepsS T n i) d.toNat kk).dropLast := by rw [ringOf, hd]
          rw [← hd] at e2 hnx2 hway hlo1 hlo2
          obtain ⟨bl, hble⟩ : ∃ bl, bl = best2.length := ⟨_, rfl⟩
          obtain ⟨ba, bc, rfl, hbc, _⟩ := id hbv2
          rw [← hble] at hnx2 hbl2 hbc ⊢
          have HNX2 := Lib.hid hnx2
          have HWAY2 := Lib.hid hway
          have HROF := Lib.hid hrof
          have HBV2 := Lib.hid hbv2
          have HB2 := Lib.hid hb2
          have HBL := Lib.hid hble
          clear hnx2 hway hrof hbv2 hb2 hrs hsv hs0 hcs hss hk0 hc2 hul hkk hk1 hk3 hbest2 hd hble
          have hstay : (d < 0 ∨ (0 < bl ∧ (bl : Int) ≤ d + 1)) → NumsR wr (.slice ba bl bc) ((l.take (m + 1)).foldl (ringStep X T n i) best) ∧ ((l.take (m + 1)).foldl (ringStep X T n i) best).length ≤ 3000 := fun h => by
            rw [HNX2.out, if_pos h, HBL.out]
            exact ⟨HBV2.out, by rw [← HBL.out]; exact hbl2⟩
          have HSTAY := Lib.hid hstay
          clear hstay
          by_cases hneg : d < 0
          · have hst := HSTAY.out (.inl hneg)
            have HST := Lib.hid hst
            clear hst
            go_wp2_with fail
            go_roundw
            case measure => simp [intOf]; omega
            case rel => exact ⟨m + 1, _, by omega, by go_num, rfl, HST.out.1, HST.out.2, HB2.out⟩
          · by_cases hst0 : 0 < bl ∧ (bl : Int) ≤ d + 1
            · have hst := HSTAY.out (.inr hst0)
              obtain ⟨q1, q2⟩ := hst0
              have HST := Lib.hid hst
              clear hst
              go_wp2_with fail
              go_roundw
              case measure => simp [intOf]; omega
              case rel => exact ⟨m + 1, _, by omega, by go_num, rfl, HST.out.1, HST.out.2, HB2.out⟩
            · have hnx3 : (l.take (m + 1)).foldl (ringStep X T n i) best = ringOf X T n i kk := by
                rw [HNX2.out, if_neg (fun h => h.elim hneg hst0)]
              rw [HROF.out] at hnx3
              have HNX3 := Lib.hid hnx3
              have hcond : ¬ 0 < bl ∨ ¬ (bl : Int) ≤ d + 1 := by omega
              clear hnx3 HSTAY HNX2 HROF hst0
              have hone := nums_one wr (i : Int)
              have hba := HB2.out.alloc HB2.out.size (.cells #[.int .i64 (i : Int)] 3)
              have HBA := Lib.hid hba
              by_cases hki : kk = i
              · have hkb : ((kk : Int) == (i : Int)) = true := by simp; omega
                have hres : NumsR (wr.alloc (.cells #[.int .i64 (i : Int)] 3)) (.slice (some ⟨wr.heap.size, 0, none⟩) 1 1) ((l.take (m + 1)).foldl (ringStep X T n i) best) ∧ ((l.take (m + 1)).foldl (ringStep X T n i) best).length ≤ 3000 := by
                  rw [HNX3.out, if_pos hki]
                  exact ⟨hone, by simp⟩
                have HRES := Lib.hid hres
                clear hres hone hba
                rw [hki] at e1 e2 hkb
                by_cases q1 : 0 < bl
                · have q2 : ¬ (bl : Int) ≤ d + 1 := by omega
                  go_wp2_with fail
                  go_roundw
                  case measure => simp [intOf]; omega
                  case rel => exact ⟨m + 1, _, by omega, by go_num, rfl, HRES.out.1, HRES.out.2, HBA.out⟩
                · go_wp2_with fail
                  go_roundw
                  case measure => simp [intOf]; omega
                  case rel => exact ⟨m + 1, _, by omega, by go_num, rfl, HRES.out.1, HRES.out.2, HBA.out⟩
              · have hkb : ((kk : Int) == (i : Int)) = false := by simp; omega
                rw [if_neg hki] at HNX3
                have hWlen : ((kk : Int) :: wayS X (stepsS T n i) d.toNat kk).length = d.toNat + 1 := by simp [wayS_len]
                obtain ⟨LW, hLW⟩ : ∃ LW, LW = (kk : Int) :: wayS X (stepsS T n i) d.toNat kk := ⟨_, rfl⟩
                have hLne : LW ≠ [] := by rw [hLW]; simp
                rw [← hLW] at HNX3 HWAY2 hWlen
                have hown := own_one wr (i : Int)
                have hW4 := HWAY2.out _ (by omega) ((X3.out.below HB2.out).below ((Below.refl wr.heap.size wr).alloc (Nat.le_refl _) (.cells #[.int .i64 (i : Int)] 3))) ((S3.out.below HB2.out).below ((Below.refl wr.heap.size wr).alloc (Nat.le_refl _) (.cells #[.int .i64 (i : Int)] 3)))
                have HW4 := Lib.hid hW4
                have HOWN := Lib.hid hown
                obtain ⟨N2, hN2⟩ : ∃ N2, N2 = LW.length := ⟨_, rfl⟩
                have hN2b : N2 ≤ 1002 := by rw [hN2, hWlen]; omega
                have hN2a : 0 < N2 := by rw [hN2, hWlen]; omega
                have HN2 := Lib.hid hN2
                clear hW4 hown hone hba hLW hWlen hN2
                by_cases q1 : 0 < bl
                · have q2 : ¬ (bl : Int) ≤ d + 1 := by omega
                  go_wp2_with (first | (go_at_call 28; refine (HW4.out).mono ?_; rintro e w4 ⟨v4, rfl, hn4, hb4⟩; obtain ⟨wb, wo, wc, hv4, hwcell⟩ := hn4.some hLne; subst hv4; rw [← HN2.out]; have B4 := Lib.hid hb4; have WC := Lib.hid hwcell; clear hn4 hb4 hwcell) | (at_builtin; go_must (refine wpList_append_own_at _ rfl _ _ 25 rfl wr.heap.size 3 i0 (.int .i64 0) 1 8 Try.underlying25 HI.out HZ0.out HZ1.out HZ2.out rfl (by omega) _ 1 (ints [(i : Int)]) rfl (owns_below0 HOWN.out B4.out) ⟨wb, wo, none⟩ N2 wc (ints LW) rfl (by rw [length_ints, HN2.out, Nat.mul_one]) (news_ints WC.out) (by intro u hu; obtain ⟨x, _, rfl⟩ := List.mem_map.1 hu; rfl) ?g1 ?g2 ?g3 ?g4)))
                  case g1 => simp only [maxLen]; omega
                  case g2 => omega
                  case g3 => have := B4.out.size; simp at this; omega
                  intro v' w' hown' hgrow' _ hblk'
                  have hown2 : w'.ownsRow wr.heap.size 3 1 v' ((i : Int) :: LW).length (ints ((i : Int) :: LW)) := by
                    rw [List.length_cons, ← HN2.out]
                    simpa [ints, Nat.add_comm] using hown'
                  have hnr := numsR_owned hown2
                  have hbel := (B4.out.mono (show wr.heap.size ≤ (wr.alloc (.cells #[.int .i64 (i : Int)] 3)).heap.size by simp)).trans (grown_below (owns_below0 HOWN.out B4.out) hgrow' (by have := B4.out.size; simp at this; omega))
                  have hbel2 := HBA.out.trans (hbel.mono HB2.out.size)
                  obtain ⟨a3, c3, hv3, hc3, _⟩ := id hnr
                  subst hv3
                  have hdl := nums_dropLast (N := N2) hnr (by rw [List.length_cons, HN2.out])
                  rw [List.length_cons, ← HN2.out] at hc3 ⊢
                  have hres : NumsR w' (.slice a3 N2 c3) ((l.take (m + 1)).foldl (ringStep X T n i) best) ∧ ((l.take (m + 1)).foldl (ringStep X T n i) best).length ≤ 3000 := by
                    rw [HNX3.out]
                    exact ⟨hdl, by rw [List.length_dropLast, List.length_cons, ← HN2.out]; omega⟩
                  have HRES := Lib.hid hres
                  have HBEL := Lib.hid hbel2
                  clear hown' hgrow' hblk' hown2 hnr hbel hbel2 hdl hres
                  go_wp2
                  go_roundw
                  case measure => simp [intOf]; omega
                  case rel => exact ⟨m + 1, _, by omega, by go_num, rfl, HRES.out.1, HRES.out.2, HBEL.out⟩
                · go_wp2_with (first | (go_at_call 28; refine (HW4.out).mono ?_; rintro e w4 ⟨v4, rfl, hn4, hb4⟩; obtain ⟨wb, wo, wc, hv4, hwcell⟩ := hn4.some hLne; subst hv4; rw [← HN2.out]; have B4 := Lib.hid hb4; have WC := Lib.hid hwcell; clear hn4 hb4 hwcell) | (at_builtin; go_must (refine wpList_append_own_at _ rfl _ _ 25 rfl wr.heap.size 3 i0 (.int .i64 0) 1 8 Try.underlying25 HI.out HZ0.out HZ1.out HZ2.out rfl (by omega) _ 1 (ints [(i : Int)]) rfl (owns_below0 HOWN.out B4.out) ⟨wb, wo, none⟩ N2 wc (ints LW) rfl (by rw [length_ints, HN2.out, Nat.mul_one]) (news_ints WC.out) (by intro u hu; obtain ⟨x, _, rfl⟩ := List.mem_map.1 hu; rfl) ?g5 ?g6 ?g7 ?g8)))
                  case g5 => simp only [maxLen]; omega
                  case g6 => omega
                  case g7 => have := B4.out.size; simp at this; omega
                  intro v' w' hown' hgrow' _ hblk'
                  have hown2 : w'.ownsRow wr.heap.size 3 1 v' ((i : Int) :: LW).length (ints ((i : Int) :: LW)) := by
                    rw [List.length_cons, ← HN2.out]
                    simpa [ints, Nat.add_comm] using hown'
                  have hnr := numsR_owned hown2
                  have hbel := (B4.out.mono (show wr.heap.size ≤ (wr.alloc (.cells #[.int .i64 (i : Int)] 3)).heap.size by simp)).trans (grown_below (owns_below0 HOWN.out B4.out) hgrow' (by have := B4.out.size; simp at this; omega))
                  have hbel2 := HBA.out.trans (hbel.mono HB2.out.size)
                  obtain ⟨a3, c3, hv3, hc3, _⟩ := id hnr
                  subst hv3
                  have hdl := nums_dropLast (N := N2) hnr (by rw [List.length_cons, HN2.out])
                  rw [List.length_cons, ← HN2.out] at hc3 ⊢
                  have hres : NumsR w' (.slice a3 N2 c3) ((l.take (m + 1)).foldl (ringStep X T n i) best) ∧ ((l.take (m + 1)).foldl (ringStep X T n i) best).length ≤ 3000 := by
                    rw [HNX3.out]
                    exact ⟨hdl, by rw [List.length_dropLast, List.length_cons, ← HN2.out]; omega⟩
                  have HRES := Lib.hid hres
                  have HBEL := Lib.hid hbel2
                  clear hown' hgrow' hblk' hown2 hnr hbel hbel2 hdl hres
                  go_wp2
                  go_roundw
                  case measure => simp [intOf]; omega
                  case rel => exact ⟨m + 1, _, by omega, by go_num, rfl, HRES.out.1, HRES.out.2, HBEL.out⟩
        · have htk : l.take m = l := List.take_of_length_le (by rw [← HLN.out]; omega)
          rw [htk] at hbest2
          have hres : (List.range (i + 1)).foldl (ringRow X T n) [] = best2 := by rw [HNEXT.out, hbest2]
          have HRES := Lib.hid hres
          have HBV2 := Lib.hid hbv2
          have HB2 := Lib.hid (B3.out.trans (hb2.mono B3.out.size))
          obtain ⟨ba, bc, rfl, _⟩ := hbv2
          clear hres htk hbest2 hb2
          go_wp2_with fail
          go_roundw
          case measure => simp [intOf]; omega
          case rel => exact ⟨i + 1, best2, by omega, by go_num, HRES.out.symm, HBV2.out, hbl2, HB2.out⟩
    · obtain rfl : i = n := by omega
      have hbv2 := hbv
      rw [hbest] at hbv2
      have HBV := Lib.hid hbv2
      have HB := Lib.hid (B2.out.trans (hb.mono B2.out.size))
      obtain ⟨ba, bc, rfl, _⟩ := hbv
      clear hbest hbv2 hb
      go_wp2_with fail
      go_ret
      exact ⟨_, rfl, HBV.out, HB.out⟩
end Go.Proofs.Ytgphohkofmgdfaa
