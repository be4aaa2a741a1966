import Derived.Test.YtgphohkofmgdfaaFarP
import Derived.Test.YtgphohkofmgdfaaCy6
namespace Go.Proofs.Ytgphohkofmgdfaa
open Go.RowKit
set_option linter.unusedVariables false
theorem make_nums (n : Nat) (hn : n ≤ 2000) (W : World) :
    (Instr.makeSlice 25 (.int .i64 (n : Int)) (.int .i64 (n : Int))).run Try.prog W = .ok (.slice (some ⟨W.heap.size, 0, none⟩) n n) (W.alloc (.cells (madeCells #[.int .i64 0] n) 3)) :=
  run_make_row' (P := Try.prog) 25 3 (.int .i64 0) 8 Try.underlying25 (by kernel_rfl) rfl .i64 .i64 n (by omega) (by omega) W
/-- Numbers in a block of their own. -/
def NumRow (W : World) (D n : Nat) (o : Nat → Int) : Prop := ∃ cs, W.heap[D]? = some (.cells cs 3 (0, 0)) ∧ cs.size = n ∧ ∀ j, j < n → cs[j]? = some (.int .i64 (o j))
theorem NumRow.at {W : World} {D n : Nat} {o : Nat → Int} (h : NumRow W D n o) {j : Nat} (hj : j < n) : W.cell? ⟨D, j, none⟩ = some (.int .i64 (o j)) ∧ W.frozen? ⟨D, j, none⟩ = false := by
  obtain ⟨cs, h1, h2, h3⟩ := h
  exact ⟨by rw [cell_of_row _ _ _ _ _ _ h1]; exact h3 j hj, frozen_of_row _ _ _ _ _ h1⟩
theorem NumRow.lt {W : World} {D n : Nat} {o : Nat → Int} (h : NumRow W D n o) : D < W.heap.size := by
  obtain ⟨cs, h1, _⟩ := h
  exact (Array.getElem?_eq_some_iff.1 h1).1
theorem NumRow.keep {W W' : World} {D n : Nat} {o : Nat → Int} (h : NumRow W D n o) (hk : W'.heap[D]? = W.heap[D]?) : NumRow W' D n o := by
  obtain ⟨cs, h1, h2⟩ := h
  exact ⟨cs, hk.trans h1, h2⟩
theorem NumRow.congr {W : World} {D n : Nat} {o o' : Nat → Int} (h : NumRow W D n o) (he : ∀ j, j < n → o j = o' j) : NumRow W D n o' := by
  obtain ⟨cs, h1, h2, h3⟩ := h
  exact ⟨cs, h1, h2, fun j hj => by rw [← he j hj]; exact h3 j hj⟩
theorem NumRow.set {W : World} {D n i : Nat} {o : Nat → Int} (h : NumRow W D n o) (hi : i < n) (v : Int) : NumRow (W.setCell ⟨D, i, none⟩ (.int .i64 v)) D n (setI o i v) := by
  obtain ⟨cs, h1, h2, h3⟩ := h
  refine ⟨_, heap_setCell_same _ D i _ _ (.int .i64 v) h1, by simp [h2], fun j hj => ?_⟩
  unfold setI
  by_cases e : j = i
  · subst e
    simp [h2, hj]
  · rw [if_neg e, Array.getElem?_setIfInBounds_ne (fun e2 => e e2.symm)]
    exact h3 j hj
theorem nums_new (w : World) (n : Nat) : NumRow (w.alloc (.cells (madeCells #[.int .i64 0] n) 3)) w.heap.size n (fun _ => 0) :=
  ⟨_, heap_alloc_new w _, by simp [madeCells], fun j hj => by simp [madeCells, hj, Nat.mod_one]⟩
theorem NumRow.nums {W : World} {D n : Nat} {o : Nat → Int} (h : NumRow W D n o) : NumsF D W (.slice (some ⟨D, 0, none⟩) n n) ((List.range n).map o) := by
  have hl : ((List.range n).map o).length = n := by simp
  refine ⟨_, n, by rw [hl], by rw [hl]; exact Nat.le_refl _, .inr ⟨D, 0, rfl, Nat.le_refl _, fun i hi => ?_⟩⟩
  rw [hl] at hi
  rw [Nat.zero_add, (h.at hi).1]
  simp
set_option maxRecDepth 100000 in
set_option maxHeartbeats 4000000 in
theorem far_any (va : Value) (T : List (List Int)) (n : Nat) (hn : n ≤ 1000) (hT : Nodes n T) (tg : Nat) (htg : tg < n) (w : World) (hG : GraphR w va T) :
    Calls Try.prog 27 #[va, .int .i64 tg] w fun e w' => ∃ v o, e = .returned v ∧ FarIs T tg o ∧ (∀ k, -1 ≤ o k ∧ o k ≤ 1001) ∧ NumsF w.heap.size w' v ((List.range n).map o) ∧ Below w.heap.size w w' := by
  obtain ⟨i0, hi, hz0, hz1, hz2⟩ := info_parts infoI
  have HI := Lib.hid hi
  have HZ0 := Lib.hid hz0
  have HZ1 := Lib.hid hz1
  have HZ2 := Lib.hid hz2
  obtain ⟨a, c, rfl, hac, hcs⟩ := hG
  rw [hT.1] at hac ⊢
  have HG := Lib.hid hcs
  have HT := Lib.hid hT
  have hmk := fun W => make_nums n (by omega) W
  have HMK := Lib.hid hmk
  clear hcs hi hz0 hz1 hz2 hT
  go_enter Try.func27, Try.ntmps27
  go_wp2_with fail
  go_loopw [18] (fun iv wr => ∃ (i : Nat) (o : Nat → Int), i ≤ n ∧ iv = .int .i64 i ∧ NumRow wr w.heap.size n o ∧ (∀ j, j < i → o j = -1) ∧ Below w.heap.size w wr) (fun iv _ => n - (intOf iv).toNat)
  case atStart => exact ⟨0, _, by omega, rfl, nums_new w n, fun j hj => by omega, (Below.refl _ _).alloc (Nat.le_refl _) _⟩
  case round =>
    obtain ⟨i, o, hi, rfl, hN, ho, hb⟩ := hrel
    by_cases hlt : i < n
    · obtain ⟨h1, h2⟩ := hN.at hlt
      have HN2 := Lib.hid (hN.set hlt (-1))
      have HB2 := Lib.hid (hb.setCell (p := ⟨w.heap.size, i, none⟩) (Nat.le_refl _) (.int .i64 (-1)))
      have HO := Lib.hid ho
      clear hN ho hb
      go_wp2_with fail
      go_roundw
      case measure => simp [intOf]; omega
      case rel => exact ⟨i + 1, _, by omega, by go_num, HN2.out, fun j hj => by
        unfold setI
        split
        · rfl
        · exact HO.out j (by omega), HB2.out⟩
    · obtain rfl : n = i := by omega
      have hN0 : NumRow wr w.heap.size n (fun _ => -1) := hN.congr ho
      obtain ⟨h1, h2⟩ := hN0.at htg
      have hN1 := hN0.set htg 0
      have hB1 := hb.setCell (p := ⟨w.heap.size, tg, none⟩) (Nat.le_refl _) (.int .i64 0)
      have hlt0 := hN.lt
      obtain ⟨W1, hW1⟩ : ∃ W1, W1 = wr.setCell ⟨w.heap.size, tg, none⟩ (.int .i64 0) := ⟨_, rfl⟩
      rw [← hW1] at hN1 hB1
      have hs1 : W1.heap.size = wr.heap.size := by rw [hW1]; simp [World.setCell]
      have hN2 : NumRow (W1.alloc (.cells #[.int .i64 (tg : Int)] 3)) w.heap.size n (setI (fun _ => -1) tg 0) := hN1.keep (heap_alloc_old _ _ (by omega))
      have hr2 : NumsF (w.heap.size + 1) (W1.alloc (.cells #[.int .i64 (tg : Int)] 3)) (.slice (some ⟨wr.heap.size, 0, none⟩) 1 1) [(tg : Int)] := by
        refine ⟨_, 1, rfl, by simp, .inr ⟨wr.heap.size, 0, rfl, by omega, fun j hj => ?_⟩⟩
        obtain rfl : j = 0 := by simp at hj; omega
        have h := heap_alloc_new W1 (.cells #[.int .i64 (tg : Int)] 3)
        rw [hs1] at h
        rw [cell_of_row _ _ _ _ _ _ h]; rfl
      have hb2 : Below w.heap.size w (W1.alloc (.cells #[.int .i64 (tg : Int)] 3)) := hB1.alloc hB1.size _
      have HN2 := Lib.hid hN2
      have HR2 := Lib.hid hr2
      have HB2 := Lib.hid hb2
      have HW1 := Lib.hid hW1
      have hc0 := cnt_le (setI (fun _ => -1) tg 0) n
      clear hN hN0 ho hb hW1 hN1 hB1 hN2 hr2 hb2 hs1 HMK
      go_wp2_with fail
      rw [← HW1.out]
      go_loopg [7] (2 * cnt (setI (fun _ => -1) tg 0) n + 1) (fun gk rv wr => ∃ (lev : Nat) (o : Nat → Int) (row : List Int), gk = 2 * cnt o n + (if row = [] then 0 else 1) ∧ FarInv T tg n lev o row ∧ lev + cnt o n ≤ n + (if row = [] then 1 else 0) ∧ row.length ≤ n ∧ NumRow wr w.heap.size n o ∧ NumsF (w.heap.size + 1) wr rv row ∧ Below w.heap.size w wr)
      case atStart => exact ⟨0, _, [(tg : Int)], by simp, farInv_start htg, by simpa using hc0, by simp; omega, HN2.out, HR2.out, HB2.out⟩
      case round =>
        clear HN2 HR2 HB2 HW1 hlt0 h1 h2 hc0
        obtain ⟨lev, o, row, hgk, hinv, hlev, hrl, hN, hR, hb⟩ := hrel
        have hlt0 := hN.lt
        by_cases hne : row = []
        · subst hne
          obtain ⟨ra, rc, rfl, _⟩ := hR
          have HE := Lib.hid (farInv_end HT.out hinv)
          have HLOW := Lib.hid (show ∀ k, -1 ≤ o k ∧ o k ≤ 1001 from fun k => by have := hinv.low k; simp at hlev; omega)
          have HN := Lib.hid hN
          have HB := Lib.hid hb
          clear hinv hN hb hgk hlev
          go_wp2_with fail
          go_ret
          exact ⟨_, o, rfl, HE.out, HLOW.out, HN.out.nums, HB.out⟩
        · rw [if_neg hne] at hgk hlev
          have hrl0 : 0 < row.length := List.length_pos_iff.2 hne
          obtain ⟨ra, rc, rfl, hrc, hrc0⟩ := hR
          obtain ⟨rl, hrlE⟩ : ∃ rl, rl = row.length := ⟨_, rfl⟩
          rw [← hrlE] at hrl hrl0 hrc ⊢
          have HGK := Lib.hid hgk
          have HINV := Lib.hid hinv
          have HRC := Lib.hid hrc0
          have HRL := Lib.hid hrlE
          have HN := Lib.hid hN
          have HB := Lib.hid hb
          have hinit : (row.take 0).foldl (rowS T) (o, []) = (o, []) := rfl
          clear hgk hinv hrc0 hrlE hN hb hinit
          obtain ⟨Wo, hWo⟩ : ∃ Wo, Wo = wr := ⟨_, rfl⟩
          rw [← hWo] at HRC HN HB hlt0 ⊢
          clear hWo
          go_wp2_with fail
          go_loopw [8, 35] (fun nv pv wr => ∃ p : Nat, p ≤ rl ∧ pv = .int .i64 p ∧ NumRow wr w.heap.size n ((row.take p).foldl (rowS T) (o, [])).1 ∧ wr.ownsRow Wo.heap.size 3 1 nv ((row.take p).foldl (rowS T) (o, [])).2.length (ints ((row.take p).foldl (rowS T) (o, [])).2) ∧ (∀ k, k ≠ w.heap.size → k < Wo.heap.size → wr.heap[k]? = Wo.heap[k]?) ∧ Wo.heap.size ≤ wr.heap.size ∧ Below w.heap.size w wr) (fun _ pv _ => rl - (intOf pv).toNat)
          case atStart => exact ⟨0, by omega, rfl, HN.out, World.ownsRow_nil _ _ _ _, fun _ _ _ => rfl, Nat.le_refl _, HB.out⟩
          case round =>
            obtain ⟨p, hp, rfl, hNp, hOp, hKp, hSp, hBp⟩ := hrel
            by_cases hlp : p < rl
            · have hAp : p < row.length := by rw [← HRL.out]; exact hlp
              rcases HRC.out with h0 | ⟨br, orr, rfl, hbr, hcr⟩
              · rw [← HRL.out] at h0; omega
              have hx0 := hcr p hAp
              have hx := (World.cell?_of_block (w' := wr) (a := ⟨br, orr + p, none⟩) (hKp br (by omega) (World.block_lt_of_cell? _ _ hx0))).trans hx0
              obtain ⟨x1, x2, x3⟩ := HINV.out.rows row[p] (List.getElem_mem hAp)
              have hmem : row[p] ∈ row := List.getElem_mem hAp
              have hnxt : (row.take (p + 1)).foldl (rowS T) (o, []) = (T.getD row[p].toNat []).foldl (visit row[p].toNat) ((row.take p).foldl (rowS T) (o, [])) := by
                rw [List.take_succ_eq_append_getElem hAp, List.foldl_append]; rfl
              have hmid := fun (l1 : List Int) hl1 => HINV.out.mid (r1 := row.take p) (l1 := l1) HT.out (fun x hx => List.mem_of_mem_take hx) hmem hl1
              obtain ⟨ii, hii⟩ := Int.eq_ofNat_of_zero_le x1
              rw [hii] at hx hnxt hmid x2
              simp only [Int.toNat_natCast] at hnxt hmid
              have hin : ii < n := by omega
              have hiT : ii < T.length := by rw [HT.out.1]; exact hin
              have hgd : T.getD ii [] = T[ii] := by simp [List.getD, hiT]
              rw [hgd] at hnxt hmid
              rcases HG.out with h0 | ⟨b1, o1, rfl, hc1⟩
              · rw [HT.out.1] at h0; omega
              obtain ⟨u, hu, la, lc, rfl, hlc, hlcell⟩ := hc1 ii hiT
              have d1 := (hBp.cell (World.block_lt_of_cell? _ _ hu)).trans hu
              have hnd := HT.out.2 T[ii] (List.getElem_mem hiT)
              obtain ⟨l, hl⟩ : ∃ l, l = T[ii] := ⟨_, rfl⟩
              rw [← hl] at hnxt hmid d1 hlc hlcell hnd
              obtain ⟨ln, hln⟩ : ∃ ln, ln = l.length := ⟨_, rfl⟩
              rw [← hln] at d1 hlc
              have hln2 : ln ≤ 100000 := by rw [hln]; exact hnd.1
              obtain ⟨s, hs⟩ : ∃ s, s = (row.take p).foldl (rowS T) (o, []) := ⟨_, rfl⟩
              rw [← hs] at hNp hOp hnxt hmid
              have HL := Lib.hid hlcell
              have HLN := Lib.hid hln
              have HND := Lib.hid hnd.2
              have HNXT := Lib.hid hnxt
              have HMID := Lib.hid hmid
              have HNp := Lib.hid hNp
              have HOp := Lib.hid hOp
              have HKp := Lib.hid hKp
              have HBp := Lib.hid hBp
              clear hlcell hln hnd hnxt hmid hNp hOp hKp hBp hs hl hgd hu hc1 hx0 hcr hmem hii x1 x3
              go_wp2_with fail
              go_loopw [8, 44] (fun nv mv wr => ∃ m : Nat, m ≤ ln ∧ mv = .int .i64 m ∧ NumRow wr w.heap.size n ((l.take m).foldl (visit ii) s).1 ∧ wr.ownsRow Wo.heap.size 3 1 nv ((l.take m).foldl (visit ii) s).2.length (ints ((l.take m).foldl (visit ii) s).2) ∧ (∀ k, k ≠ w.heap.size → k < Wo.heap.size → wr.heap[k]? = Wo.heap[k]?) ∧ Wo.heap.size ≤ wr.heap.size ∧ Below w.heap.size w wr) (fun _ mv _ => ln - (intOf mv).toNat)
              case atStart => exact ⟨0, by omega, rfl, HNp.out, HOp.out, HKp.out, hSp, HBp.out⟩
              case round =>
                obtain ⟨m, hm, rfl, hNm, hOm, hKm, hSm, hBm⟩ := hrel
                by_cases hlm : m < ln
                · have hAm : m < l.length := by rw [← HLN.out]; exact hlm
                  rcases HL.out with h0 | ⟨b2, o2, rfl, hc2⟩
                  · rw [← HLN.out] at h0; omega
                  have hk0 := hc2 m hAm
                  have e1 := (hBm.cell (World.block_lt_of_cell? _ _ hk0)).trans hk0
                  obtain ⟨hk1, hk3⟩ := HND.out l[m] (List.getElem_mem hAm)
                  have hnx2 : (l.take (m + 1)).foldl (visit ii) s = visit ii ((l.take m).foldl (visit ii) s) l[m] := by
                    rw [List.take_succ_eq_append_getElem hAm, List.foldl_append]; rfl
                  obtain ⟨hlow, hsum⟩ := HMID.out (l.take m) (fun x hx => List.mem_of_mem_take hx)
                  obtain ⟨kk, hkk⟩ := Int.eq_ofNat_of_zero_le hk1
                  have hkn : kk < n := by omega
                  rw [hkk] at e1 hnx2
                  obtain ⟨s2, hs2⟩ : ∃ s2, s2 = (l.take m).foldl (visit ii) s := ⟨_, rfl⟩
                  rw [← hs2] at hNm hOm hnx2 hlow hsum
                  have hcl := cnt_le o n
                  obtain ⟨q1, q2⟩ := hNm.at hkn
                  obtain ⟨r1, _⟩ := hNm.at hin
                  obtain ⟨vk, hvk⟩ : ∃ vk, vk = s2.1 kk := ⟨_, rfl⟩
                  obtain ⟨vi, hvi⟩ : ∃ vi, vi = s2.1 ii := ⟨_, rfl⟩
                  have hvi2 := hlow ii
                  rw [← hvk] at q1
                  rw [← hvi] at r1 hvi2
                  have hsl : s2.2.length ≤ 1000 := by omega
                  have hlev2 : lev ≤ 1000 := by omega
                  by_cases hneg : vk < 0
                  · have hvis : visit ii s2 (kk : Int) = (setI s2.1 kk (vi + 1), s2.2 ++ [(kk : Int)]) := by
                      unfold visit
                      simp only [Int.toNat_natCast]
                      rw [if_pos (by rw [← hvk]; exact hneg), hvi]
                    rw [hvis] at hnx2
                    have hN3 := hNm.set hkn (vi + 1)
                    have hO3 := owns_set hOm (k := w.heap.size) hlt0 kk (.int .i64 (vi + 1))
                    have hB3 := hBm.setCell (p := ⟨w.heap.size, kk, none⟩) (Nat.le_refl _) (.int .i64 (vi + 1))
                    obtain ⟨W3, hW3⟩ : ∃ W3, W3 = wr.setCell ⟨w.heap.size, kk, none⟩ (.int .i64 (vi + 1)) := ⟨_, rfl⟩
                    have hs3 : W3.heap.size = wr.heap.size := by rw [hW3]; simp [World.setCell]
                    have hK3 : ∀ k, k ≠ w.heap.size → k < Wo.heap.size → W3.heap[k]? = Wo.heap[k]? := fun k h1 h2 => by
                      rw [hW3]
                      exact (heap_setCell_other _ _ _ _ (by show k ≠ w.heap.size; exact h1)).trans (hKm k h1 h2)
                    rw [← hW3] at hN3 hO3 hB3
                    have hnb := heap_alloc_new W3 (.cells #[.int .i64 (kk : Int)] 3)
                    rw [hs3] at hnb
                    have HNB := Lib.hid hnb
                    have HW3 := Lib.hid hW3
                    have HN3 := Lib.hid hN3
                    have HO3 := Lib.hid hO3
                    have HB3 := Lib.hid hB3
                    have HK3 := Lib.hid hK3
                    have HNX2 := Lib.hid hnx2
                    clear hnb hW3 hN3 hO3 hB3 hK3 hnx2 hNm hOm hKm hBm hs2 hvk hvi hvis hkk hk0 hc2 hlow hsum hk1 hk3
                    go_wp2_with (at_builtin; rw [← HW3.out]; go_must (refine wpList_append_own_at _ rfl _ _ 25 rfl Wo.heap.size 3 i0 (.int .i64 0) 1 8 Try.underlying25 HI.out HZ0.out HZ1.out HZ2.out rfl (by omega) _ s2.2.length (ints s2.2) rfl (HO3.out.alloc _) ⟨_, 0, none⟩ 1 1 [.int .i64 (kk : Int)] rfl rfl (World.news_of_block HNB.out) (by simp [Value.oneCell']) ?g1 ?g2 ?g3 ?g4))
                    case g1 => simp only [maxLen]; omega
                    case g2 => omega
                    case g3 => first | omega | (simp; omega)
                    intro v' w' hown' hgrow' _ hblk'
                    obtain ⟨a3, n3, c3, rfl⟩ := owns_slice hown'
                    have hbel := ((Below.refl Wo.heap.size W3).alloc (by omega) (.cells #[.int .i64 (kk : Int)] 3)).trans (grown_below (HO3.out.alloc _) hgrow' (by simp; omega))
                    have hN4 : NumRow w' w.heap.size n (setI s2.1 kk (vi + 1)) := HN3.out.keep (hbel.block _ hlt0)
                    have hK4 : ∀ k, k ≠ w.heap.size → k < Wo.heap.size → w'.heap[k]? = Wo.heap[k]? := fun k h1 h2 => (hbel.block k h2).trans (HK3.out k h1 h2)
                    have hB4 := HB3.out.trans (hbel.mono (Nat.le_of_lt hlt0))
                    have HOWN4 := Lib.hid (show w'.ownsRow Wo.heap.size 3 1 (.slice a3 n3 c3) (s2.2 ++ [(kk : Int)]).length (ints (s2.2 ++ [(kk : Int)])) by simpa [ints] using hown')
                    have HN4 := Lib.hid hN4
                    have HK4 := Lib.hid hK4
                    have HB4 := Lib.hid hB4
                    have hsz4 : Wo.heap.size ≤ w'.heap.size := Nat.le_trans (by omega) hbel.size
                    clear hown' hgrow' hblk' hbel hN4 hK4 hB4
                    go_wp2
                    go_roundw
                    case measure => simp [intOf]; omega
                    case rel => exact ⟨m + 1, by omega, by go_num, by rw [HNX2.out]; exact HN4.out, by rw [HNX2.out]; exact HOWN4.out, HK4.out, hsz4, HB4.out⟩
                  · have hvis : visit ii s2 (kk : Int) = s2 := by
                      unfold visit
                      simp only [Int.toNat_natCast]
                      rw [if_neg (by rw [← hvk]; exact hneg)]
                    rw [hvis] at hnx2
                    have HNm := Lib.hid hNm
                    have HOm := Lib.hid hOm
                    have HKm := Lib.hid hKm
                    have HBm := Lib.hid hBm
                    have HNX2 := Lib.hid hnx2
                    clear hnx2 hNm hOm hKm hBm hs2 hvk hvi hvis hkk hk0 hc2 hlow hsum hk1 hk3
                    go_wp2_with fail
                    go_roundw
                    case measure => simp [intOf]; omega
                    case rel => exact ⟨m + 1, by omega, by go_num, by rw [HNX2.out]; exact HNm.out, by rw [HNX2.out]; exact HOm.out, HKm.out, hSm, HBm.out⟩
                · have htk : l.take m = l := List.take_of_length_le (by rw [← HLN.out]; omega)
                  rw [htk] at hNm hOm
                  have HNm := Lib.hid hNm
                  have HOm := Lib.hid hOm
                  have HKm := Lib.hid hKm
                  have HBm := Lib.hid hBm
                  clear htk hNm hOm hKm hBm
                  go_wp2_with fail
                  go_roundw
                  case measure => simp [intOf]; omega
                  case rel => exact ⟨p + 1, by omega, by go_num, by rw [HNXT.out]; exact HNm.out, by rw [HNXT.out]; exact HOm.out, HKm.out, hSm, HBm.out⟩
            · have htk : row.take p = row := List.take_of_length_le (by rw [← HRL.out]; omega)
              rw [htk] at hNp hOp
              have hlev2 := HINV.out.level HT.out
              have hinv2 := farInv_step HT.out HINV.out
              obtain ⟨s, hs⟩ : ∃ s, s = levelS T o row := ⟨_, rfl⟩
              rw [← hs] at hlev2 hinv2
              have hs2 : row.foldl (rowS T) (o, []) = s := hs.symm
              rw [hs2] at hNp hOp
              have hcl := cnt_le o n
              have HINV2 := Lib.hid hinv2
              have HRF := Lib.hid ((numsF_owned hOp).mono (B := w.heap.size + 1) (by omega))
              have HNp := Lib.hid hNp
              have HBp := Lib.hid hBp
              clear htk hNp hOp hKp hBp hinv2 hs hs2
              have hgk := HGK.out
              go_wp2_with fail
              by_cases hz : s.2 = []
              · have hz2 : s.2.length = 0 := by rw [hz]; rfl
                go_roundg (2 * cnt s.1 n)
                case measure => omega
                case rel => exact ⟨lev + 1, s.1, s.2, by rw [if_pos hz]; rfl, HINV2.out, by rw [if_pos hz]; omega, by omega, HNp.out, HRF.out, HBp.out⟩
              · have hz2 : 0 < s.2.length := List.length_pos_iff.2 hz
                go_roundg (2 * cnt s.1 n + 1)
                case measure => omega
                case rel => exact ⟨lev + 1, s.1, s.2, by rw [if_neg hz], HINV2.out, by rw [if_neg hz]; omega, by omega, HNp.out, HRF.out, HBp.out⟩
end Go.Proofs.Ytgphohkofmgdfaa
