import Derived.Test.YtgphohkofmgdfaaCy8
import Derived.Deep.LoopGhost
namespace Go.Proofs.Ytgphohkofmgdfaa
open Go.RowKit
set_option linter.unusedVariables false
theorem owns_ne {W : World} {base : Nat} {e : TypeId} {size : Nat} {v : Value} {n : Nat} {xs : List Value} (h : W.ownsRow base e size v n xs) {k : Nat} (hk : v.ownBlock ≠ some k) (i : Nat) (u : Value) : (W.setCell ⟨k, i, none⟩ u).ownsRow base e size v n xs := by
  refine ⟨h.1, ?_⟩
  rcases h.2 with h0 | ⟨g, cap, cur, e1, e2, e3, e4⟩
  · exact .inl h0
  · exact .inr ⟨g, cap, cur, e1, e2, (heap_setCell_other _ _ _ _ (by show g ≠ k; intro e; exact hk (by rw [e1, e]; rfl))).trans e3, e4⟩
theorem owns_lt {W : World} {base : Nat} {e : TypeId} {size : Nat} {v : Value} {n : Nat} {xs : List Value} (h : W.ownsRow base e size v n xs) : v.ownBlock ≠ some W.heap.size := fun hg => by
  rcases h.2 with ⟨e2, _⟩ | ⟨g2, cap, cur, e2, _, hb2, _⟩
  · rw [e2] at hg; cases hg
  · rw [e2] at hg
    have hlt := (Array.getElem?_eq_some_iff.1 hb2).1
    simp [Value.ownBlock] at hg
    omega
def nextW (X : List (List Int)) (S : List Int) (a : Nat) : Int := (X.getD a []).getD (idxB (nearB S a) (X.getD a [])).toNat 0
/-- The way's nodes behind a, so many. -/
def wayS (X : List (List Int)) (S : List Int) : Nat → Nat → List Int
  | 0, _ => []
  | j + 1, a => nextW X S a :: wayS X S j (nextW X S a).toNat
/-- From each node that is some steps away the first that is nearer is found. -/
structure Leads (X : List (List Int)) (S : List Int) (n tg : Nat) (o : Nat → Int) : Prop where
  zero : ∀ a, a < n → (o a = 0 ↔ a = tg)
  step : ∀ a, a < n → ∀ j : Nat, o a = (j : Int) + 1 → ∃ i b : Nat, ∃ h : i < (X.getD a []).length, idxB (nearB S a) (X.getD a []) = (i : Int) ∧ (X.getD a [])[i] = (b : Int) ∧ b < n ∧ o b = (j : Int)
set_option maxRecDepth 100000 in
set_option maxHeartbeats 4000000 in
theorem way_any (vx vs : Value) (X : List (List Int)) (n tg from_ j0 : Nat) (o : Nat → Int) (hn : n ≤ 1000) (hX : Nodes n X) (hlow : ∀ k, k < n → -1 ≤ o k ∧ o k ≤ 1500) (htg : tg < n) (hfr : from_ < n) (hj0 : o from_ = (j0 : Int)) (hL : Leads X ((List.range n).map o) n tg o) (w : World) (hG : GraphR w vx X) (hS : NumsR w vs ((List.range n).map o)) :
    Calls Try.prog 28 #[vx, .int .i64 from_, .int .i64 tg, vs] w fun e w' => ∃ v, e = .returned v ∧ NumsF w.heap.size w' v ((from_ : Int) :: wayS X ((List.range n).map o) j0 from_) ∧ Below w.heap.size w w' := by
  obtain ⟨i0, hi, hz0, hz1, hz2⟩ := info_parts infoI
  have HI := Lib.hid hi
  have HZ0 := Lib.hid hz0
  have HZ1 := Lib.hid hz1
  have HZ2 := Lib.hid hz2
  obtain ⟨S, hSS⟩ : ∃ S, S = (List.range n).map o := ⟨_, rfl⟩
  rw [← hSS] at hL hS ⊢
  have hSl : S.length = n := by rw [hSS]; simp
  have hSb : ∀ x ∈ S, -1 ≤ x ∧ x ≤ 1000000 := fun x hx => by
    rw [hSS] at hx
    obtain ⟨k, hk, rfl⟩ := List.mem_map.1 hx
    have := hlow k (by simpa using hk)
    omega
  obtain ⟨a, c, rfl, hac, hcs⟩ := hG
  obtain ⟨sa, sc, rfl, hsc, hscs⟩ := id hS
  rw [hX.1] at hac ⊢
  rw [hSl] at hsc ⊢
  have hS2 := hS
  rw [hSl] at hS2
  have HG := Lib.hid hcs
  have HX := Lib.hid hX
  have HS := Lib.hid hS2
  have HSL := Lib.hid hSl
  have HSB := Lib.hid hSb
  have HL := Lib.hid hL
  have hj1 := (hlow from_ hfr).2
  rw [hj0] at hj1
  have hj2 : j0 ≤ 1500 := by omega
  obtain ⟨LL, hLL⟩ : ∃ LL, LL = (from_ : Int) :: wayS X S j0 from_ := ⟨_, rfl⟩
  rw [← hLL]
  have HLL := Lib.hid hLL
  have HJ0 := Lib.hid hj0
  clear hcs hscs hi hz0 hz1 hz2 hX hS hS2 hSl hSb hL hSS hLL hj0 hj1 hlow
  go_enter Try.func28, Try.ntmps28
  go_wp2_with fail
  have s1 : (w.alloc (.cells #[.slice sa n sc] 25)).heap.size = w.heap.size + 1 := by simp
  have s2 : ((w.alloc (.cells #[.slice sa n sc] 25)).alloc (.cells #[.int .i64 (from_ : Int)] 3)).heap.size = w.heap.size + 1 + 1 := by simp
  have hb0 : Below w.heap.size w (((w.alloc (.cells #[.slice sa n sc] 25)).alloc (.cells #[.int .i64 (from_ : Int)] 3)).alloc (.cells #[.int .i64 (from_ : Int)] 3)) := (((Below.refl _ _).alloc (Nat.le_refl _) _).alloc (by omega) _).alloc (by omega) _
  have h7 : (((w.alloc (.cells #[.slice sa n sc] 25)).alloc (.cells #[.int .i64 (from_ : Int)] 3)).alloc (.cells #[.int .i64 (from_ : Int)] 3)).heap[w.heap.size]? = some (.cells #[.slice sa n sc] 25 (0, 0)) :=
    (heap_alloc_old _ _ (by omega)).trans ((heap_alloc_old _ _ (by omega)).trans (heap_alloc_new w _))
  have h8 : (((w.alloc (.cells #[.slice sa n sc] 25)).alloc (.cells #[.int .i64 (from_ : Int)] 3)).alloc (.cells #[.int .i64 (from_ : Int)] 3)).heap[w.heap.size + 1]? = some (.cells #[.int .i64 (from_ : Int)] 3 (0, 0)) := by
    have h := heap_alloc_new (w.alloc (.cells #[.slice sa n sc] 25)) (.cells #[.int .i64 (from_ : Int)] 3)
    rw [s1] at h
    exact (heap_alloc_old _ _ (by omega)).trans h
  have h9 : (((w.alloc (.cells #[.slice sa n sc] 25)).alloc (.cells #[.int .i64 (from_ : Int)] 3)).alloc (.cells #[.int .i64 (from_ : Int)] 3)).heap[w.heap.size + 1 + 1]? = some (.cells #[.int .i64 (from_ : Int)] 3 (0, 0)) := by
    have h := heap_alloc_new ((w.alloc (.cells #[.slice sa n sc] 25)).alloc (.cells #[.int .i64 (from_ : Int)] 3)) (.cells #[.int .i64 (from_ : Int)] 3)
    rw [s2] at h
    exact h
  obtain ⟨W0, hW0⟩ : ∃ W0, W0 = (((w.alloc (.cells #[.slice sa n sc] 25)).alloc (.cells #[.int .i64 (from_ : Int)] 3)).alloc (.cells #[.int .i64 (from_ : Int)] 3)) := ⟨_, rfl⟩
  rw [← hW0] at hb0 h7 h8 h9 ⊢
  have hown0 : W0.ownsRow (w.heap.size + 1) 3 1 (.slice (some ⟨w.heap.size + 1, 0, none⟩) 1 1) 1 (ints [(from_ : Int)]) :=
    ⟨rfl, .inr ⟨w.heap.size + 1, 1, _, rfl, Nat.le_refl _, h8, Nat.le_refl _, by decide, rfl, rfl⟩⟩
  have HB0 := Lib.hid hb0
  have H7 := Lib.hid h7
  have H9 := Lib.hid h9
  have HOWN0 := Lib.hid hown0
  clear s1 s2 hb0 h7 h8 h9 hown0 hW0
  go_loopg [9, 10] j0 (fun gk v pv wr => ∃ (b10 a : Nat) (l : List Int), pv = .pointer (some ⟨b10, 0, none⟩) ∧ w.heap.size < b10 ∧ wr.heap[b10]? = some (.cells #[.int .i64 (a : Int)] 3 (0, 0)) ∧ a < n ∧ o a = (gk : Int) ∧ l ++ wayS X S gk a = LL ∧ wr.ownsRow (w.heap.size + 1) 3 1 v l.length (ints l) ∧ v.ownBlock ≠ some b10 ∧ l.length + gk ≤ 2000 ∧ wr.heap[w.heap.size]? = some (.cells #[.slice sa n sc] 25 (0, 0)) ∧ Below w.heap.size w wr)
  case atStart => exact ⟨w.heap.size + 1 + 1, from_, [(from_ : Int)], rfl, by omega, H9.out, hfr, HJ0.out, HLL.out.symm, HOWN0.out, by simp [Value.ownBlock], by simp; omega, H7.out, HB0.out⟩
  case round =>
    obtain ⟨b10, at_, l, rfl, hb10, h10, han, hoa, hll, hown, hnb, hlen, h7, hb⟩ := hrel
    clear HB0 H7 H9 HOWN0
    have hc10 : wr.cell? ⟨b10, 0, none⟩ = some (.int .i64 (at_ : Int)) := by rw [cell_of_row _ _ _ _ _ _ h10]; rfl
    have hf10 : wr.frozen? ⟨b10, 0, none⟩ = false := frozen_of_row _ _ _ _ _ h10
    have hc7 : wr.cell? ⟨w.heap.size, 0, none⟩ = some (.slice sa n sc) := by rw [cell_of_row _ _ _ _ _ _ h7]; rfl
    cases hgk : gk with
    | zero =>
      rw [hgk] at hoa hll
      have hat : at_ = tg := (HL.out.zero at_ han).1 (by simpa using hoa)
      subst hat
      have hlL : l = LL := by simpa [wayS] using hll
      have HOWN := Lib.hid hown
      have HB := Lib.hid hb
      obtain ⟨a3, n3, c3, rfl⟩ := owns_slice hown
      clear hown hb h7 h10 hll hoa
      go_wp2_with fail
      go_ret
      refine ⟨_, rfl, ?_, HB.out⟩
      rw [← hlL]
      exact (numsF_owned HOWN.out).mono (by omega)
    | succ j =>
      rw [hgk] at hoa hll hlen
      have hne : at_ ≠ tg := fun e => by
        have := (HL.out.zero at_ han).2 e
        omega
      have hneb : ((at_ : Int) == (tg : Int)) = false := by simp; omega
      obtain ⟨i, b, hi, hidx, hrow, hbn, hob⟩ := HL.out.step at_ han j (by simpa using hoa)
      have haX : at_ < X.length := by rw [HX.out.1]; exact han
      have hgd : X.getD at_ [] = X[at_] := by simp [List.getD, haX]
      have hnx : nextW X S at_ = (b : Int) := by
        unfold nextW
        rw [hidx, Int.toNat_natCast]
        simp only [List.getD_eq_getElem?_getD]
        simp only [List.getD_eq_getElem?_getD] at hi hrow
        rw [List.getElem?_eq_getElem hi, Option.getD_some]
        exact hrow
      have hll2 : (l ++ [(b : Int)]) ++ wayS X S j b = LL := by
        rw [← hll, wayS, hnx]
        simp
      have hrange := HX.out.2 X[at_] (List.getElem_mem haX)
      rcases HG.out with h0 | ⟨b1, o1, rfl, hc1⟩
      · rw [HX.out.1] at h0; omega
      obtain ⟨u, hu, hnu⟩ := hc1 at_ haX
      have hnuw := hnu.below hb
      have d1 := (hb.cell (World.block_lt_of_cell? _ _ hu)).trans hu
      have hi2 : i < X[at_].length := by rw [← hgd]; exact hi
      have hrow2 : X[at_][i] = (b : Int) := by
        have h := hrow
        simp only [hgd] at h
        exact h
      rw [hgd] at hidx
      obtain ⟨la, lc, rfl, hlc, h0 | ⟨b2, o2, rfl, hc2⟩⟩ := id hnuw
      · omega
      have d2 := hc2 i hi2
      rw [hrow2] at d2
      have hix := fun q => indexW_any _ X[at_] w.heap.size b10 _ S at_ (by omega) (fun x hx => by rw [HSL.out]; exact hrange.2 x hx) (by rw [HSL.out]; exact han) HSB.out (wr.drewN q) (hnuw.below (below_drewN (Below.refl _ _) q)) hc7 ((HS.out.below hb).below (below_drewN (Below.refl _ _) q)) hc10
      rw [hidx] at hix
      obtain ⟨ln, hln⟩ : ∃ ln, ln = X[at_].length := ⟨_, rfl⟩
      rw [← hln] at hi2 hlc d1 hix
      have HIX := Lib.hid hix
      have HOWN := Lib.hid hown
      have HB := Lib.hid hb
      have H10 := Lib.hid h10
      have H7 := Lib.hid h7
      have HLL2 := Lib.hid hll2
      have HNB := Lib.hid hnb
      clear hix hown hb h10 h7 hll hll2 hnb hidx hgd hnx hrange hu hnu hnuw hc1 hc2 hln hrow hrow2 hoa hi
      go_upto_region 4 with fail
      go_cut [28] (fun v28 wx => ∃ m : Nat, v28 = .int .i64 (b : Int) ∧ wx = (wr.drewN m).setCell ⟨b10, 0, none⟩ (.int .i64 (b : Int)))
      case first =>
        go_region_law (first
          | (go_simp; go_at_call 34; refine (HIX.out _).mono ?_; rintro e w1 ⟨rfl, m1, rfl⟩))
        all_goals
          go_wp2_with fail
          go_meet
          exact ⟨_, rfl, rfl⟩
      case rest =>
        obtain ⟨m, rfl, rfl⟩ := hcut
        have hown3 := owns_ne (W := wr.drewN m) HOWN.out HNB.out 0 (.int .i64 (b : Int))
        have hb3 := (below_drewN HB.out m).setCell (p := ⟨b10, 0, none⟩) (by show w.heap.size ≤ b10; omega) (.int .i64 (b : Int))
        have h10' : ((wr.drewN m).setCell ⟨b10, 0, none⟩ (.int .i64 (b : Int))).heap[b10]? = some (.cells #[.int .i64 (b : Int)] 3 (0, 0)) := heap_setCell_same (wr.drewN m) b10 0 _ _ (.int .i64 (b : Int)) H10.out
        have h7' : ((wr.drewN m).setCell ⟨b10, 0, none⟩ (.int .i64 (b : Int))).heap[w.heap.size]? = some (.cells #[.slice sa n sc] 25 (0, 0)) := (heap_setCell_other _ _ _ _ (by show w.heap.size ≠ b10; omega)).trans H7.out
        obtain ⟨W3, hW3⟩ : ∃ W3, W3 = (wr.drewN m).setCell ⟨b10, 0, none⟩ (.int .i64 (b : Int)) := ⟨_, rfl⟩
        rw [← hW3] at hown3 hb3 h10' h7' ⊢
        have hc3 : W3.cell? ⟨b10, 0, none⟩ = some (.int .i64 (b : Int)) := by rw [cell_of_row _ _ _ _ _ _ h10']; rfl
        have hlt10 := (Array.getElem?_eq_some_iff.1 h10').1
        have HOWN3 := Lib.hid hown3
        have HB3 := Lib.hid hb3
        have H103 := Lib.hid h10'
        have H73 := Lib.hid h7'
        have hc3a : (W3.alloc (.cells #[.int .i64 (b : Int)] 3)).cell? ⟨b10, 0, none⟩ = some (.int .i64 (b : Int)) := by
          rw [cell_of_row _ _ _ _ _ _ ((heap_alloc_old W3 (.cells #[.int .i64 (b : Int)] 3) hlt10).trans h10')]; rfl
        clear hown3 hb3 h10' h7' hW3 hc10 hc7 hf10 d1 d2
        go_wp2_with (at_builtin; go_must (refine wpList_append_own_at _ rfl _ _ 25 rfl (w.heap.size + 1) 3 i0 (.int .i64 0) 1 8 Try.underlying25 HI.out HZ0.out HZ1.out HZ2.out rfl (by omega) _ l.length (ints l) rfl (HOWN3.out.alloc _) ⟨_, 0, none⟩ 1 1 [.int .i64 (b : Int)] rfl rfl (World.news_of_block (heap_alloc_new _ _)) (by simp [Value.oneCell']) ?g1 ?g2 ?g3 ?g4))
        case g1 => simp only [maxLen]; omega
        case g2 => omega
        case g3 => simp; omega
        intro v' w' hown' hgrow' _ hblk'
        obtain ⟨a3, n3, c3, rfl⟩ := owns_slice hown'
        have hne10 : some b10 ≠ u9.ownBlock := fun e => HNB.out e.symm
        have hw10 := (hgrow'.block b10 (by simp; omega) hne10).trans ((heap_alloc_old W3 (.cells #[.int .i64 (b : Int)] 3) hlt10).trans H103.out)
        have hbel := ((Below.refl (w.heap.size + 1) W3).alloc (by omega) (.cells #[.int .i64 (b : Int)] 3)).trans (grown_below (HOWN3.out.alloc _) hgrow' (by simp; omega))
        have hw7 := (hbel.block w.heap.size (by omega)).trans H73.out
        have hbw := HB3.out.trans (hbel.mono (Nat.le_succ _))
        have hcw : w'.cell? ⟨b10, 0, none⟩ = some (.int .i64 (b : Int)) := by rw [cell_of_row _ _ _ _ _ _ hw10]; rfl
        have HOWN4 := Lib.hid (show w'.ownsRow (w.heap.size + 1) 3 1 (.slice a3 n3 c3) (l ++ [(b : Int)]).length (ints (l ++ [(b : Int)])) by simpa [ints] using hown')
        have HW7 := Lib.hid hw7
        have HBW := Lib.hid hbw
        have hszw : w.heap.size < w'.heap.size := by have := hbel.size; omega
        clear hown' hgrow' hblk' hw10 hbel hw7 hbw hne10
        go_wp2
        go_roundg j
        case measure => omega
        case rel =>
          exact ⟨w'.heap.size, b, l ++ [(b : Int)], rfl, hszw, heap_alloc_new w' _, hbn, hob, HLL2.out, HOWN4.out.alloc _, owns_lt HOWN4.out, by simp; omega, (heap_alloc_old _ _ hszw).trans HW7.out, HBW.out.alloc HBW.out.size _⟩
end Go.Proofs.Ytgphohkofmgdfaa
