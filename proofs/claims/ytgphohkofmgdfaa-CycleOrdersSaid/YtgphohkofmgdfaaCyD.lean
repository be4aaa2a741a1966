import Derived.Test.YtgphohkofmgdfaaFarN
namespace Go.Proofs.Ytgphohkofmgdfaa
open Go.RowKit
set_option linter.unusedVariables false
/-- Numbers at the head of a block. -/
def NumC (W : World) (D n : Nat) (o : Nat → Int) : Prop := ∃ cs, W.heap[D]? = some (.cells cs 3 (0, 0)) ∧ n ≤ cs.size ∧ ∀ j, j < n → cs[j]? = some (.int .i64 (o j))
theorem NumC.at {W : World} {D n : Nat} {o : Nat → Int} (h : NumC W D n o) {j : Nat} (hj : j < n) : W.cell? ⟨D, j, none⟩ = some (.int .i64 (o j)) ∧ W.frozen? ⟨D, j, none⟩ = false := by
  obtain ⟨cs, h1, h2, h3⟩ := h
  exact ⟨by rw [cell_of_row _ _ _ _ _ _ h1]; exact h3 j hj, frozen_of_row _ _ _ _ _ h1⟩
theorem NumC.lt {W : World} {D n : Nat} {o : Nat → Int} (h : NumC W D n o) : D < W.heap.size := by
  obtain ⟨cs, h1, _⟩ := h
  exact (Array.getElem?_eq_some_iff.1 h1).1
theorem NumC.keep {W W' : World} {D n : Nat} {o : Nat → Int} (h : NumC W D n o) (hk : W'.heap[D]? = W.heap[D]?) : NumC W' D n o := by
  obtain ⟨cs, h1, h2⟩ := h
  exact ⟨cs, hk.trans h1, h2⟩
theorem NumC.congr {W : World} {D n : Nat} {o o' : Nat → Int} (h : NumC W D n o) (he : ∀ j, j < n → o j = o' j) : NumC W D n o' := by
  obtain ⟨cs, h1, h2, h3⟩ := h
  exact ⟨cs, h1, h2, fun j hj => by rw [← he j hj]; exact h3 j hj⟩
theorem NumC.set {W : World} {D n i : Nat} {o : Nat → Int} (h : NumC W D n o) (hi : i < n) (v : Int) : NumC (W.setCell ⟨D, i, none⟩ (.int .i64 v)) D n (setI o i v) := by
  obtain ⟨cs, h1, h2, h3⟩ := h
  refine ⟨_, heap_setCell_same _ D i _ _ (.int .i64 v) h1, by simpa using h2, fun j hj => ?_⟩
  unfold setI
  by_cases e : j = i
  · subst e
    have : j < cs.size := by omega
    simp [this]
  · rw [if_neg e, Array.getElem?_setIfInBounds_ne (fun e2 => e e2.symm)]
    exact h3 j hj
theorem numC_new (w : World) (n : Nat) : NumC (w.alloc (.cells (madeCells #[.int .i64 0] n) 3)) w.heap.size n (fun _ => 0) :=
  ⟨_, heap_alloc_new w _, by simp [madeCells], fun j hj => by simp [madeCells, hj, Nat.mod_one]⟩
theorem NumC.nums {W : World} {D n cap : Nat} {o : Nat → Int} (h : NumC W D n o) (hc : n ≤ cap) {B : Nat} (hB : B ≤ D) : NumsF B W (.slice (some ⟨D, 0, none⟩) n cap) ((List.range n).map o) := by
  have hl : ((List.range n).map o).length = n := by simp
  refine ⟨_, cap, by rw [hl], by rw [hl]; exact hc, .inr ⟨D, 0, rfl, hB, fun i hi => ?_⟩⟩
  rw [hl] at hi
  rw [Nat.zero_add, (h.at hi).1]
  simp
theorem numC_owned {W : World} {B n : Nat} {v : Value} {o : Nat → Int} (h0 : 0 < n) (h : W.ownsRow B 3 1 v n (ints ((List.range n).map o))) : ∃ D cap, v = .slice (some ⟨D, 0, none⟩) n cap ∧ n ≤ cap ∧ B ≤ D ∧ NumC W D n o := by
  rcases h.2 with ⟨_, h1⟩ | ⟨g, cap, cur, rfl, hg, hb, hc, h2, h3, h4⟩
  · omega
  · refine ⟨g, cap, rfl, hc, hg, cur, hb, by omega, fun j hj => ?_⟩
    have := h.cellAt j (by omega)
    rw [cell_of_row _ _ _ _ _ _ hb] at this
    rw [this]
    simp [ints, hj]
/-- A new row that is being filled: all else stays. -/
structure MidF (w Wo W : World) (D n : Nat) (f : Nat → Int) : Prop where
  num : NumC W D n f
  keep : ∀ k, k ≠ D → W.heap[k]? = Wo.heap[k]?
  below : Below w.heap.size w W
theorem MidF.set {w Wo W : World} {D n : Nat} {f : Nat → Int} (h : MidF w Wo W D n f) (hD : w.heap.size ≤ D) {i : Nat} (hi : i < n) (v : Int) : MidF w Wo (W.setCell ⟨D, i, none⟩ (.int .i64 v)) D n (setI f i v) :=
  ⟨h.num.set hi v, fun k hk => (heap_setCell_other _ _ _ _ (by show k ≠ D; exact hk)).trans (h.keep k hk), h.below.setCell (by exact hD) _⟩
theorem MidF.congr {w Wo W : World} {D n : Nat} {f f' : Nat → Int} (h : MidF w Wo W D n f) (he : ∀ j, j < n → f j = f' j) : MidF w Wo W D n f' := ⟨h.num.congr he, h.keep, h.below⟩
theorem rndN_zero {X T : List (List Int)} {tg m i : Nat} (h : m ≠ 0) : rndN X T tg m i 0 = 0 := by
  unfold rndN
  rw [if_neg h]
  rfl
theorem rndN_succ {X T : List (List Int)} {tg m i k : Nat} (h : m ≠ 0) : rndN X T tg m i (k + 1) = if cutN T tg m k = (m : Int) ∧ onX X i k = true then (m : Int) + 1 else rndN X T tg m i k := by
  unfold rndN
  rw [if_neg h, if_neg h, List.range_succ, List.any_append]
  by_cases hc : cutN T tg m k = (m : Int) ∧ onX X i k = true
  · rw [if_pos hc]
    simp [hc.1, hc.2]
  · rw [if_neg hc]
    have : (decide (cutN T tg m k = (m : Int)) && onX X i k) = false := by
      rw [Bool.and_eq_false_iff]
      by_cases h1 : cutN T tg m k = (m : Int)
      · right
        exact Bool.eq_false_iff.2 fun h2 => hc ⟨h1, h2⟩
      · left; simpa using h1
    simp [this]
noncomputable def midN (T : List (List Int)) (tg m i : Nat) : Nat → Int := fun j => if j < i then cutN T tg (m + 1) j else cutN T tg m j
set_option maxRecDepth 100000 in
set_option maxHeartbeats 4000000 in
theorem rfar_any (va : Value) (G : List (List Int)) (hn : G.length ≤ 1000) (hr : ∀ l ∈ G, l.length ≤ 100000) (tg : Nat) (htg : tg < G.length) (w : World) (hG : GraphR w va G) :
    Calls Try.prog 29 #[va, .int .i64 tg] w fun e w' => ∃ v, e = .returned v ∧ NumsF w.heap.size w' v (farL (turnX (ofX G)) G.length tg) ∧ Below w.heap.size w w' := by
  obtain ⟨i0, hi, hz0, hz1, hz2⟩ := info_parts infoI
  have HI := Lib.hid hi
  have HZ0 := Lib.hid hz0
  have HZ1 := Lib.hid hz1
  have HZ2 := Lib.hid hz2
  have hon := fun i k h1 h2 W h => on_any va G hn hr i k h1 h2 W h
  have HON := Lib.hid hon
  have hnod := ofX_nodes hr
  have htn := turnX_nodes hn hnod (ofX_rising G)
  have HGR := Lib.hid hG
  obtain ⟨a, c, rfl, hac, hcs⟩ := hG
  obtain ⟨n, hnl⟩ : ∃ n, n = G.length := ⟨_, rfl⟩
  obtain ⟨X, hX⟩ : ∃ X, X = ofX G := ⟨_, rfl⟩
  rw [← hnl] at hn hac HGR HON htg hnod htn ⊢
  rw [← hX] at HON hnod htn ⊢
  have hround := fun m i h1 h2 => cutN_round (X := X) (n := n) (tg := tg) (m := m) (i := i) hnod htn htg h1 h2
  have hend := fun k (hk : k < n) => cutN_end (T := turnX X) (tg := tg) (k := k) (by rw [htn.1]; exact hk)
  rw [htn.1] at hend
  obtain ⟨T, hT⟩ : ∃ T, T = turnX X := ⟨_, rfl⟩
  rw [← hT] at hround hend ⊢
  have HROUND := Lib.hid hround
  have HEND := Lib.hid hend
  have hmk := fun W => make_nums n (by omega) W
  clear hcs hr hnl hi hz0 hz1 hz2 hon hX hround hend hnod htn hT
  go_enter Try.func29, Try.ntmps29
  go_wp2_with fail
  clear hmk
  go_loopw [5, 6] (fun ov nv wr => ∃ m D cap : Nat, m ≤ n ∧ nv = .int .i64 ((m + 1 : Nat) : Int) ∧ ov = .slice (some ⟨D, 0, none⟩) n cap ∧ n ≤ cap ∧ w.heap.size ≤ D ∧ NumC wr D n (cutN T tg m) ∧ Below w.heap.size w wr) (fun _ nv _ => n + 1 - (intOf nv).toNat)
  case atStart => exact ⟨0, w.heap.size, n, by omega, rfl, rfl, Nat.le_refl _, Nat.le_refl _, (numC_new w n).congr fun j _ => (cutN_zero T tg j).symm, (Below.refl _ _).alloc (Nat.le_refl _) _⟩
  case round =>
    obtain ⟨m, D, cap, hm, rfl, rfl, hcap, hDw, hN, hb⟩ := hrel
    obtain ⟨N, hNm⟩ : ∃ N, N = m + 1 := ⟨_, rfl⟩
    rw [← hNm]
    have HNM := Lib.hid hNm
    have hNle : N ≤ 1001 := by omega
    have hN0 : 1 ≤ N := by omega
    have hNlt : m < n → N ≤ n := by omega
    have hNge : ¬ m < n → ¬ N ≤ n := by omega
    clear hNm
    by_cases hlt : m < n
    · have hDl := hN.lt
      have hNa := hN.keep (heap_alloc_old wr (.cells #[] 3) hDl)
      have hnews : ∀ (j : Nat) (u : Value), (ints ((List.range n).map (cutN T tg m)))[j]? = some u → (wr.alloc (.cells #[] 3)).cell? ((⟨D, 0, none⟩ : Addr).add j) = some u := news_ints (fun j hj => by
        have hj2 : j < n := by simpa using hj
        rw [Nat.zero_add, (hNa.at hj2).1]
        simp)
      have HNEWS := Lib.hid hnews
      have hown := own_none wr
      have HOWN := Lib.hid hown
      have HN := Lib.hid hN
      have HB := Lib.hid hb
      clear hnews hown hN hb hNa
      go_wp2_with (at_builtin; go_must (refine wpList_append_own_at _ rfl _ _ 25 rfl wr.heap.size 3 i0 (.int .i64 0) 1 8 Try.underlying25 HI.out HZ0.out HZ1.out HZ2.out rfl (by omega) _ 0 (ints []) rfl HOWN.out ⟨D, 0, none⟩ n cap (ints ((List.range n).map (cutN T tg m))) rfl (by rw [length_ints]; simp) HNEWS.out (by intro u hu; obtain ⟨x, _, rfl⟩ := List.mem_map.1 hu; rfl) ?g1 ?g2 ?g3 ?g4))
      case g1 => simp only [maxLen]; omega
      case g2 => omega
      case g3 => simp
      intro v' w' hown' hgrow' _ hblk'
      obtain ⟨D2, cap2, rfl, hcap2, hD2, hN2⟩ := numC_owned (o := cutN T tg m) (by omega) hown'
      have hbel := ((Below.refl wr.heap.size wr).alloc (by omega) (.cells #[] 3)).trans (grown_below HOWN.out hgrow' (by simp))
      have hN1 := HN.out.keep (hbel.block _ hDl)
      have hM : MidF w w' w' D2 n (midN T tg m 0) := ⟨hN2.congr fun j _ => by simp [midN], fun _ _ => rfl, HB.out.trans (hbel.mono HB.out.size)⟩
      have hD2w : w.heap.size ≤ D2 := Nat.le_trans HB.out.size hD2
      have hne : D ≠ D2 := by omega
      have HN1 := Lib.hid hN1
      have HM := Lib.hid hM
      clear hown' hgrow' hblk' hbel hN1 hN2 hM HOWN HNEWS HN HB
      go_wp2_with fail
      go_loopw [24] (fun iv wx => ∃ i : Nat, i ≤ n ∧ iv = .int .i64 i ∧ MidF w w' wx D2 n (midN T tg m i)) (fun iv _ => n - (intOf iv).toNat)
      case atStart => exact ⟨0, by omega, rfl, HM.out⟩
      case round =>
        obtain ⟨i, hi, rfl, hMi⟩ := hrel
        by_cases hlti : i < n
        · have hNi := HN1.out.keep (hMi.keep D hne)
          obtain ⟨q1, _⟩ := hNi.at hlti
          have hcr := cutN_range T tg m i
          obtain ⟨x, hx⟩ : ∃ x, x = cutN T tg m i := ⟨_, rfl⟩
          have hrd := HROUND.out m i hlti
          have hkp := cutN_kept (T := T) (tg := tg) (m := m) (k := i)
          rw [← hx] at q1 hcr hrd hkp
          have hnext : ∀ y, y = cutN T tg (m + 1) i → ∀ j, j < n → setI (midN T tg m i) i y j = midN T tg m (i + 1) j := fun y hy j _ => by
            unfold setI midN
            by_cases e : j = i
            · subst e
              simp [hy]
            · rw [if_neg e]
              by_cases h1 : j < i
              · rw [if_pos h1, if_pos (by omega)]
              · rw [if_neg h1, if_neg (by omega)]
          have hself : ∀ y, y = x → ∀ j, j < n → midN T tg m i j = setI (midN T tg m i) i y j := fun y hy j _ => by
            unfold setI midN
            by_cases e : j = i
            · subst e
              simp [hy, hx]
            · rw [if_neg e]
          have HMI := Lib.hid hMi
          have HNI := Lib.hid hNi
          have HNEXT := Lib.hid hnext
          have HSELF := Lib.hid hself
          have HRD := Lib.hid hrd
          have HKP := Lib.hid hkp
          clear hMi hNi hnext hself hrd hkp hx
          obtain ⟨Wx, hWx⟩ : ∃ Wx, Wx = wr := ⟨_, rfl⟩
          rw [← hWx] at HMI HNI q1 ⊢
          clear hWx
          by_cases hx0 : 0 < x
          · have hMn := (HMI.out.congr (HSELF.out x rfl)).congr (HNEXT.out x (HKP.out hx0).symm)
            have HMN := Lib.hid hMn
            clear hMn
            go_wp2_with fail
            go_roundw
            case measure => first | (simp [intOf]; done) | (simp [intOf]; omega)
            case rel => exact ⟨i + 1, by omega, by go_num, HMN.out⟩
          · have hxz : x = 0 := by omega
            have hrd := HRD.out (by omega)
            clear HRD HKP
            by_cases hm0 : m = 0
            · subst hm0
              have hNm := HNM.out
              have hNb : ((N : Int) == 1) = true := by simp; omega
              have hN1 : ¬ (1 : Int) < (N : Int) := by omega
              clear hNm
              unfold rndN at hrd
              rw [if_pos rfl] at hrd
              have hoc := HON.out i tg hlti htg Wx (HGR.out.below HMI.out.below)
              cases hb : onX X i tg with
              | true =>
                rw [hb] at hoc hrd
                rw [if_pos rfl] at hrd
                obtain ⟨f1, f2⟩ := HMI.out.num.at hlti
                have hM1 := (HMI.out.set hD2w hlti 1).congr (HNEXT.out 1 hrd.symm)
                obtain ⟨W1, hW1⟩ : ∃ W1, W1 = Wx.setCell ⟨D2, i, none⟩ (.int .i64 1) := ⟨_, rfl⟩
                rw [← hW1] at hM1
                have HOC := Lib.hid hoc
                have HM1 := Lib.hid hM1
                have HW1 := Lib.hid hW1
                clear hoc hM1 hrd hb hW1
                go_wp2_with (go_at_call 15; refine (HOC.out).mono ?_; rintro e w1 ⟨rfl, rfl⟩)
                rw [← HW1.out]
                go_loopw [45] (fun kv wy => ∃ k : Nat, k ≤ n ∧ kv = .int .i64 k ∧ wy = W1) (fun kv _ => n - (intOf kv).toNat)
                case atStart => exact ⟨0, by omega, rfl, rfl⟩
                case round =>
                  obtain ⟨k, hk, rfl, rfl⟩ := hrel
                  by_cases hltk : k < n
                  · go_wp2_with fail
                    go_roundw
                    case measure => first | (simp [intOf]; done) | (simp [intOf]; omega)
                    case rel => exact ⟨k + 1, by omega, by go_num, by first | rfl | trivial⟩
                  · go_wp2_with fail
                    go_roundw
                    case measure => first | (simp [intOf]; done) | (simp [intOf]; omega)
                    case rel => exact ⟨i + 1, by omega, by go_num, HM1.out⟩
              | false =>
                rw [hb] at hoc hrd
                rw [if_neg (by simp)] at hrd
                have hM1 := (HMI.out.congr (HSELF.out 0 hxz.symm)).congr (HNEXT.out 0 hrd.symm)
                have HOC := Lib.hid hoc
                have HM1 := Lib.hid hM1
                clear hoc hM1 hrd hb
                go_wp2_with (go_at_call 15; refine (HOC.out).mono ?_; rintro e w1 ⟨rfl, rfl⟩)
                go_loopw [45] (fun kv wy => ∃ k : Nat, k ≤ n ∧ kv = .int .i64 k ∧ wy = Wx) (fun kv _ => n - (intOf kv).toNat)
                case atStart => exact ⟨0, by omega, rfl, rfl⟩
                case round =>
                  obtain ⟨k, hk, rfl, rfl⟩ := hrel
                  by_cases hltk : k < n
                  · go_wp2_with fail
                    go_roundw
                    case measure => first | (simp [intOf]; done) | (simp [intOf]; omega)
                    case rel => exact ⟨k + 1, by omega, by go_num, by first | rfl | trivial⟩
                  · go_wp2_with fail
                    go_roundw
                    case measure => first | (simp [intOf]; done) | (simp [intOf]; omega)
                    case rel => exact ⟨i + 1, by omega, by go_num, HM1.out⟩
            · have hNm := HNM.out
              have hN2 : N ≠ 1 := by omega
              have hNb : ((N : Int) == 1) = false := by simp; omega
              have hN1 : (1 : Int) < (N : Int) := by omega
              have hM0 := HMI.out.congr (HSELF.out (rndN X T tg m i 0) (by rw [rndN_zero hm0, hxz]))
              have HM0 := Lib.hid hM0
              have HRN := Lib.hid hrd
              clear hM0 hrd hNm
              go_wp2_with fail
              go_loopw [45] (fun kv wy => ∃ k : Nat, k ≤ n ∧ kv = .int .i64 k ∧ MidF w w' wy D2 n (setI (midN T tg m i) i (rndN X T tg m i k))) (fun kv _ => n - (intOf kv).toNat)
              case atStart => exact ⟨0, by omega, rfl, HM0.out⟩
              case round =>
                obtain ⟨k, hk, rfl, hMk⟩ := hrel
                by_cases hltk : k < n
                · have hsu := rndN_succ (X := X) (T := T) (tg := tg) (i := i) (k := k) hm0
                  have hNk := HN1.out.keep (hMk.keep D hne)
                  obtain ⟨q2, _⟩ := hNk.at hltk
                  have hcrk := cutN_range T tg m k
                  obtain ⟨y, hy⟩ : ∃ y, y = cutN T tg m k := ⟨_, rfl⟩
                  rw [← hy] at q2 hcrk hsu
                  have hoc := HON.out i k hlti hltk wr (HGR.out.below hMk.below)
                  obtain ⟨f1, f2⟩ := hMk.num.at hlti
                  have HMK := Lib.hid hMk
                  clear hy hNk hMk
                  by_cases hyn : y = (m : Int)
                  · have hNm := HNM.out
                    have hyb : (y == (N : Int) - 1) = true := by simp; omega
                    have hyN : y = (N : Int) - 1 := by omega
                    cases hb : onX X i k with
                    | true =>
                      rw [hb] at hoc hsu
                      rw [if_pos ⟨hyn, rfl⟩] at hsu
                      have hM1 := (HMK.out.set hD2w hlti (N : Int)).congr (f' := setI (midN T tg m i) i (rndN X T tg m i (k + 1))) fun j _ => by
                        rw [hsu]
                        unfold setI
                        by_cases e : j = i
                        · rw [if_pos e, if_pos e]; omega
                        · rw [if_neg e, if_neg e, if_neg e]
                      clear hNm
                      obtain ⟨W1, hW1⟩ : ∃ W1, W1 = wr.setCell ⟨D2, i, none⟩ (.int .i64 (N : Int)) := ⟨_, rfl⟩
                      rw [← hW1] at hM1
                      have HOC := Lib.hid hoc
                      have HM1 := Lib.hid hM1
                      have HW1 := Lib.hid hW1
                      clear hoc hM1 hb hW1 hsu
                      go_wp2_with (go_at_call 15; refine (HOC.out).mono ?_; rintro e w1 ⟨rfl, rfl⟩)
                      go_roundw
                      case measure => first | (simp [intOf]; done) | (simp [intOf]; omega)
                      case rel => exact ⟨k + 1, by omega, by go_num, by rw [← HW1.out]; exact HM1.out⟩
                    | false =>
                      rw [hb] at hoc hsu
                      rw [if_neg (by simp)] at hsu
                      have hM1 := HMK.out
                      rw [← hsu] at hM1
                      have HOC := Lib.hid hoc
                      have HM1 := Lib.hid hM1
                      clear hoc hM1 hb hsu hNm
                      go_wp2_with (go_at_call 15; refine (HOC.out).mono ?_; rintro e w1 ⟨rfl, rfl⟩)
                      go_roundw
                      case measure => first | (simp [intOf]; done) | (simp [intOf]; omega)
                      case rel => exact ⟨k + 1, by omega, by go_num, HM1.out⟩
                  · have hNm := HNM.out
                    have hyb : (y == (N : Int) - 1) = false := by simp; omega
                    clear hNm
                    rw [if_neg (fun h => hyn h.1)] at hsu
                    have hM1 := HMK.out
                    rw [← hsu] at hM1
                    have HM1 := Lib.hid hM1
                    clear hoc hM1 hsu
                    go_wp2_with fail
                    go_roundw
                    case measure => first | (simp [intOf]; done) | (simp [intOf]; omega)
                    case rel => exact ⟨k + 1, by omega, by go_num, HM1.out⟩
                · obtain rfl : k = n := by omega
                  have hM1 := hMk.congr (HNEXT.out _ HRN.out.symm)
                  have HM1 := Lib.hid hM1
                  clear hM1 hMk
                  go_wp2_with fail
                  go_roundw
                  case measure => first | (simp [intOf]; done) | (simp [intOf]; omega)
                  case rel => exact ⟨i + 1, by omega, by go_num, HM1.out⟩
        · obtain rfl : i = n := by omega
          have hN3 := hMi.num.congr (o' := cutN T tg (m + 1)) fun j hj => by unfold midN; rw [if_pos hj]
          have HN3 := Lib.hid hN3
          have HB3 := Lib.hid hMi.below
          clear hN3 hMi
          go_wp2_with fail
          go_roundw
          case measure => first | (simp [intOf]; done) | (simp [intOf]; omega)
          case rel => exact ⟨m + 1, D2, cap2, by omega, by rw [show m + 1 + 1 = N + 1 by have := HNM.out; omega]; first | rfl | (simp; done), rfl, hcap2, hD2w, HN3.out, HB3.out⟩
    · obtain rfl : m = n := by omega
      have hN3 := hN.congr HEND.out
      have HN3 := Lib.hid hN3
      have HB3 := Lib.hid hb
      clear hN3 hN hb
      go_wp2_with fail
      go_ret
      exact ⟨_, rfl, HN3.out.nums hcap hDw, HB3.out⟩
end Go.Proofs.Ytgphohkofmgdfaa
