import Derived.Test.YtgphohkofmgdfaaCy5
import Derived.Deep.CutBlock
namespace Go.Proofs.Ytgphohkofmgdfaa
open Go.RowKit
set_option linter.unusedVariables false
/-- The least below i that p holds of; -1: there is none. -/
def leastB (p : Nat → Bool) : Nat → Int
  | 0 => -1
  | i + 1 => if leastB p i < 0 then (if p i = true then (i : Int) else -1) else leastB p i
theorem leastB_range (p : Nat → Bool) : ∀ i, -1 ≤ leastB p i ∧ leastB p i < (i : Int)
  | 0 => by simp [leastB]
  | i + 1 => by
    have h := leastB_range p i
    rw [leastB]
    split
    · split <;> omega
    · omega
def setB (d : Nat → Bool) (i : Nat) : Nat → Bool := fun j => if j = i then true else d j
/-- The order, round by round. -/
def orderS (X : List (List Int)) (n : Nat) : Nat → (Nat → Bool) → List Int → Option (List Int)
  | 0, _, l => some l
  | r + 1, d, l => if leastB (readyB X d) n < 0 then none else orderS X n r (setB d (leastB (readyB X d) n).toNat) (l ++ [leastB (readyB X d) n])
def OrderOut (X : List (List Int)) (n : Nat) (ok : Bool) (l : List Int) : Prop :=
  (ok = true ∧ orderS X n n (fun _ => false) [] = some l) ∨ (ok = false ∧ l = [] ∧ orderS X n n (fun _ => false) [] = none)
theorem make_marks (n : Nat) (hn : n ≤ 2000) (W : World) :
    (Instr.makeSlice 34 (.int .i64 (n : Int)) (.int .i64 (n : Int))).run Try.prog W = .ok (.slice (some ⟨W.heap.size, 0, none⟩) n n) (W.alloc (.cells (madeCells #[.bool false] n) 4)) :=
  run_make_row' (P := Try.prog) 34 4 (.bool false) 1 Try.underlying34 (by kernel_rfl) rfl .i64 .i64 n (by omega) (by omega) W
/-- Marks in a block of their own. -/
def MarkRow (W : World) (D n : Nat) (d : Nat → Bool) : Prop := ∃ cs, W.heap[D]? = some (.cells cs 4 (0, 0)) ∧ cs.size = n ∧ ∀ j, j < n → cs[j]? = some (.bool (d j))
theorem MarkRow.at {W : World} {D n : Nat} {d : Nat → Bool} (h : MarkRow W D n d) : MarksAt W D n d := fun j hj => by
  obtain ⟨cs, h1, h2, h3⟩ := h
  exact ⟨by rw [cell_of_row _ _ _ _ _ _ h1]; exact h3 j hj, frozen_of_row _ _ _ _ _ h1⟩
theorem MarkRow.lt {W : World} {D n : Nat} {d : Nat → Bool} (h : MarkRow W D n d) : D < W.heap.size := by
  obtain ⟨cs, h1, _⟩ := h
  exact (Array.getElem?_eq_some_iff.1 h1).1
theorem MarkRow.keep {W W' : World} {D n : Nat} {d : Nat → Bool} (h : MarkRow W D n d) (hk : W'.heap[D]? = W.heap[D]?) : MarkRow W' D n d := by
  obtain ⟨cs, h1, h2⟩ := h
  exact ⟨cs, hk.trans h1, h2⟩
theorem MarkRow.set {W : World} {D n i : Nat} {d : Nat → Bool} (h : MarkRow W D n d) (hi : i < n) : MarkRow (W.setCell ⟨D, i, none⟩ (.bool true)) D n (setB d i) := by
  obtain ⟨cs, h1, h2, h3⟩ := h
  refine ⟨_, heap_setCell_same _ D i _ _ (.bool true) h1, by simp [h2], fun j hj => ?_⟩
  unfold setB
  by_cases e : j = i
  · subst e
    simp [h2, hj]
  · rw [if_neg e, Array.getElem?_setIfInBounds_ne (fun e2 => e e2.symm)]
    exact h3 j hj
theorem marks_new (w : World) (n : Nat) : MarkRow (w.alloc (.cells (madeCells #[.bool false] n) 4)) w.heap.size n (fun _ => false) :=
  ⟨_, heap_alloc_new w _, by simp [madeCells], fun j hj => by simp [madeCells, hj, Nat.mod_one]⟩
/-- What Order keeps: the graph's variable, the marks' one, the marks. -/
structure OrdAt (w1 W : World) (n : Nat) (vx : Value) (d : Nat → Bool) : Prop where
  x : W.heap[w1.heap.size]? = some (.cells #[vx] 38 (0, 0))
  marks : MarkRow W (w1.heap.size + 1) n d
  box : W.heap[w1.heap.size + 1 + 1]? = some (.cells #[.slice (some ⟨w1.heap.size + 1, 0, none⟩) n n] 34 (0, 0))
  below : Below w1.heap.size w1 W
  size : w1.heap.size + 3 ≤ W.heap.size
theorem OrdAt.bx {w1 W : World} {n : Nat} {vx : Value} {d : Nat → Bool} (h : OrdAt w1 W n vx d) : BoxAt W w1.heap.size vx := by
  unfold BoxAt
  rw [cell_of_row _ _ _ _ _ _ h.x]; rfl
theorem OrdAt.bd {w1 W : World} {n : Nat} {vx : Value} {d : Nat → Bool} (h : OrdAt w1 W n vx d) : BoxAt W (w1.heap.size + 1 + 1) (.slice (some ⟨w1.heap.size + 1, 0, none⟩) n n) := by
  unfold BoxAt
  rw [cell_of_row _ _ _ _ _ _ h.box]; rfl
theorem OrdAt.step {w1 W W1 : World} {n : Nat} {vx : Value} {d : Nat → Bool} {b : Nat} (h : OrdAt w1 W n vx d) (hb : w1.heap.size + 3 ≤ b) (hk : Below b W W1) : OrdAt w1 W1 n vx d :=
  ⟨(hk.block _ (by omega)).trans h.x, h.marks.keep (hk.block _ (by omega)), (hk.block _ (by omega)).trans h.box, h.below.trans ⟨hk.os, hk.tape, hk.output, hk.size, fun k h1 => hk.block k (by omega)⟩, Nat.le_trans h.size hk.size⟩
theorem OrdAt.set {w1 W : World} {n i : Nat} {vx : Value} {d : Nat → Bool} (h : OrdAt w1 W n vx d) (hi : i < n) : OrdAt w1 (W.setCell ⟨w1.heap.size + 1, i, none⟩ (.bool true)) n vx (setB d i) :=
  ⟨(heap_setCell_other _ _ _ _ (by show w1.heap.size ≠ w1.heap.size + 1; omega)).trans h.x, h.marks.set hi, (heap_setCell_other _ _ _ _ (by show w1.heap.size + 1 + 1 ≠ w1.heap.size + 1; omega)).trans h.box, h.below.setCell (by show w1.heap.size ≤ w1.heap.size + 1; omega) _, by simpa [World.setCell] using h.size⟩
theorem ord_new (w1 : World) (n : Nat) (vx : Value) : OrdAt w1 (((w1.alloc (.cells #[vx] 38)).alloc (.cells (madeCells #[.bool false] n) 4)).alloc (.cells #[.slice (some ⟨w1.heap.size + 1, 0, none⟩) n n] 34)) n vx (fun _ => false) := by
  have s1 : (w1.alloc (.cells #[vx] 38)).heap.size = w1.heap.size + 1 := by simp
  have s2 : ((w1.alloc (.cells #[vx] 38)).alloc (.cells (madeCells #[.bool false] n) 4)).heap.size = w1.heap.size + 1 + 1 := by simp
  refine ⟨?_, ?_, ?_, ?_, by simp <;> omega⟩
  · exact (heap_alloc_old _ _ (by simp <;> omega)).trans ((heap_alloc_old _ _ (by simp <;> omega)).trans (heap_alloc_new w1 _))
  · have h := marks_new (w1.alloc (.cells #[vx] 38)) n
    rw [s1] at h
    exact h.keep (heap_alloc_old _ _ (by simp <;> omega))
  · have h := heap_alloc_new ((w1.alloc (.cells #[vx] 38)).alloc (.cells (madeCells #[.bool false] n) 4)) (.cells #[.slice (some ⟨w1.heap.size + 1, 0, none⟩) n n] 34)
    rw [s2] at h
    exact h
  · exact (((Below.refl _ _).alloc (Nat.le_refl _) _).alloc (by simp <;> omega) _).alloc (by simp <;> omega) _
theorem owns_set {W : World} {base : Nat} {e : TypeId} {size : Nat} {v : Value} {n : Nat} {xs : List Value} (h : W.ownsRow base e size v n xs) {k : Nat} (hk : k < base) (i : Nat) (u : Value) : (W.setCell ⟨k, i, none⟩ u).ownsRow base e size v n xs := by
  refine ⟨h.1, ?_⟩
  rcases h.2 with h0 | ⟨g, cap, cur, e1, e2, e3, e4⟩
  · exact .inl h0
  · exact .inr ⟨g, cap, cur, e1, e2, (heap_setCell_other _ _ _ _ (by show g ≠ k; omega)).trans e3, e4⟩
theorem grown_below {W W1 : World} {b : Nat} {v : Value} {e : TypeId} {size n : Nat} {xs : List Value} (h : W.ownsRow b e size v n xs) (hg : W.grownBy W1 v.ownBlock) (hb : b ≤ W.heap.size) : Below b W W1 :=
  ⟨hg.os, hg.tape, hg.output, hg.size, fun k hk => hg.block k (by omega) (fun e => by
    rcases h.2 with ⟨e2, _⟩ | ⟨g, cap, cur, e2, e3, _⟩
    · rw [e2] at e; cases e
    · rw [e2] at e; simp [Value.ownBlock] at e; omega)⟩
set_option maxRecDepth 100000 in
set_option maxHeartbeats 4000000 in
theorem order_any (va : Value) (G : List (List Int)) (hn : G.length ≤ 1000) (hr : ∀ l ∈ G, l.length ≤ 100000) (ok : Bool) (L : List Int) (hout : OrderOut (ofX G) G.length ok L) (w : World) (hG : GraphR w va G) :
    Calls Try.prog 10 #[va] w fun e w' => ∃ v, e = .returned (.tuple #[v, .bool ok]) ∧ NumsR w' v L ∧ Below w.heap.size w w' := by
  obtain ⟨i0, hi, hz0, hz1, hz2⟩ := info_parts infoI
  have HI := Lib.hid hi
  have HZ0 := Lib.hid hz0
  have HZ1 := Lib.hid hz1
  have HZ2 := Lib.hid hz2
  have hof := fun W h => of_any va G hn hr W h
  have hnod := ofX_nodes hr
  have HOF := Lib.hid hof
  have HGR := Lib.hid hG
  obtain ⟨a, c, rfl, hac, hcs⟩ := hG
  obtain ⟨n, hnl⟩ : ∃ n, n = G.length := ⟨_, rfl⟩
  obtain ⟨X, hX⟩ : ∃ X, X = ofX G := ⟨_, rfl⟩
  rw [← hnl] at hn hac hnod HGR HOF hout ⊢
  rw [← hX] at hnod HOF hout
  have HNOD := Lib.hid hnod
  have HOUT := Lib.hid hout
  have hmk := fun W => make_marks n (by omega) W
  have HMK := Lib.hid hmk
  clear hcs hr hnl hi hz0 hz1 hz2 hof hnod hX hout
  go_enter Try.func10, Try.ntmps10
  go_wp2_with (go_at_call 22; refine (HOF.out _ HGR.out).mono ?_; rintro e w1 ⟨v1, rfl, hg1, hb1⟩; have B1 := Lib.hid hb1; have R1 := Lib.hid hg1.at; obtain ⟨a1, c1, hv1, hc1, _⟩ := id hg1; subst hv1; rw [HNOD.out.1] at hc1 ⊢; clear hb1 hg1)
  have hst := ord_new w1 n (.slice a1 n c1)
  obtain ⟨W0, hW0⟩ : ∃ W0, W0 = (((w1.alloc (.cells #[.slice a1 n c1] 38)).alloc (.cells (madeCells #[.bool false] n) 4)).alloc (.cells #[.slice (some ⟨w1.heap.size + 1, 0, none⟩) n n] 34)) := ⟨_, rfl⟩
  rw [← hW0] at hst ⊢
  have HST := Lib.hid hst
  have hR1 := R1.out
  rw [HNOD.out.1] at hR1
  have R2 := Lib.hid hR1
  clear hst hW0 HOF HMK hR1
  go_loopw [7, 18] (fun v rv wr => ∃ (r : Nat) (d : Nat → Bool) (l : List Int), r ≤ n ∧ rv = .int .i64 r ∧ l.length = r ∧ OrdAt w1 wr n (.slice a1 n c1) d ∧ wr.ownsRow (w1.heap.size + 3) 3 1 v l.length (ints l) ∧ orderS X n (n - r) d l = orderS X n n (fun _ => false) []) (fun _ rv _ => n - (intOf rv).toNat)
  case atStart => exact ⟨0, _, [], by omega, rfl, rfl, HST.out, World.ownsRow_nil _ _ _ _, rfl⟩
  case round =>
    obtain ⟨r, d, l, hrn, rfl, hlr, hO, hown, hord⟩ := hrel
    by_cases hlt : r < n
    · obtain ⟨p, hp⟩ : ∃ p, p = readyB X d := ⟨_, rfl⟩
      have hrd := fun i hi => ready_any X n HNOD.out (w1.heap.size + 1 + 1) w1.heap.size (w1.heap.size + 1) d (.slice a1 n c1) i hi wr hO.bd hO.bx (R2.out.below hO.below) hO.marks.at
      have hord2 : orderS X n (n - r) d l = if leastB p n < 0 then none else orderS X n (n - (r + 1)) (setB d (leastB p n).toNat) (l ++ [leastB p n]) := by
        rw [show n - r = (n - (r + 1)) + 1 by omega, orderS, hp]
      rw [hord] at hord2
      rw [← hp] at hrd
      have hx := hO.bx
      have hbd := hO.bd
      unfold BoxAt at hx hbd
      have HRD := Lib.hid hrd
      have HORD := Lib.hid hord2
      have HO := Lib.hid hO
      have HOWN := Lib.hid hown
      obtain ⟨W1, hW1⟩ : ∃ W1, W1 = wr := ⟨_, rfl⟩
      rw [← hW1] at HRD HO HOWN hx hbd ⊢
      clear hrd hord hord2 hO hown hp hW1
      go_wp2_with fail
      go_loopw [8, 22] (fun nv iv wr => ∃ i : Nat, i ≤ n ∧ iv = .int .i64 i ∧ nv = .int .i64 (leastB p i) ∧ wr = W1) (fun _ iv _ => n - (intOf iv).toNat)
      case atStart => exact ⟨0, by omega, rfl, rfl, rfl⟩
      case round =>
        obtain ⟨i, hi, rfl, rfl, rfl⟩ := hrel
        obtain ⟨q, hq⟩ : ∃ q, q = leastB p i := ⟨_, rfl⟩
        have hqr := leastB_range p i
        rw [← hq] at hqr ⊢
        by_cases hlm : i < n
        · have hnx : leastB p (i + 1) = if q < 0 then (if p i = true then (i : Int) else -1) else q := by rw [hq]; rfl
          have HNX := Lib.hid hnx
          have hri := HRD.out i hlm
          clear hnx hq
          by_cases hq0 : q < 0
          · cases hpi : p i with
            | true =>
              rw [hpi] at hri
              have HRI := Lib.hid hri
              have HPI := Lib.hid hpi
              clear hri hpi
              go_wp2_with (go_at_call 23; refine (HRI.out).mono ?_; rintro e w2 ⟨rfl, rfl⟩)
              go_roundw
              case measure => simp [intOf]; omega
              case rel => exact ⟨i + 1, by omega, by go_num, by rw [HNX.out, if_pos hq0, if_pos HPI.out], by first | rfl | trivial⟩
            | false =>
              rw [hpi] at hri
              have HRI := Lib.hid hri
              have HPI := Lib.hid hpi
              obtain rfl : q = -1 := by omega
              clear hri hpi
              go_wp2_with (go_at_call 23; refine (HRI.out).mono ?_; rintro e w2 ⟨rfl, rfl⟩)
              go_roundw
              case measure => simp [intOf]; omega
              case rel => exact ⟨i + 1, by omega, by go_num, by rw [HNX.out, if_pos hq0, if_neg (by rw [HPI.out]; simp)], by first | rfl | trivial⟩
          · clear hri
            go_wp2_with fail
            go_roundw
            case measure => simp [intOf]; omega
            case rel => exact ⟨i + 1, by omega, by go_num, by rw [HNX.out, if_neg hq0], by first | rfl | trivial⟩
        · obtain rfl : i = n := by omega
          have hord := HORD.out
          rw [← hq] at hord
          clear hq HRD HORD
          by_cases hq0 : q < 0
          · rw [if_pos hq0] at hord
            have hno : ok = false ∧ L = [] := by
              rcases HOUT.out with ⟨_, h2⟩ | ⟨h1, h2, _⟩
              · rw [hord] at h2; cases h2
              · exact ⟨h1, h2⟩
            obtain ⟨rfl, rfl⟩ := hno
            clear hord HOUT
            have HBL := Lib.hid (B1.out.trans (HO.out.below.mono B1.out.size))
            go_wp2_with fail
            go_ret2
            exact ⟨_, rfl, numsR_nil _, HBL.out⟩
          · rw [if_neg hq0] at hord
            obtain ⟨qn, rfl⟩ := Int.eq_ofNat_of_zero_le (show 0 ≤ q by omega)
            have hqn : qn < i := by omega
            simp only [Int.toNat_natCast] at hord
            have HORD := Lib.hid hord
            obtain ⟨hm1, hm2⟩ := HO.out.marks.at qn hqn
            have hO2 := HO.out.set hqn
            have hown2 := owns_set HOWN.out (k := w1.heap.size + 1) (by omega) qn (.bool true)
            obtain ⟨W2, hW2⟩ : ∃ W2, W2 = wr.setCell ⟨w1.heap.size + 1, qn, none⟩ (.bool true) := ⟨_, rfl⟩
            rw [← hW2] at hO2 hown2
            have hs2 : W2.heap.size = wr.heap.size := by rw [hW2]; simp [World.setCell]
            have hnb := heap_alloc_new W2 (.cells #[.int .i64 (qn : Int)] 3)
            rw [hs2] at hnb
            have HNB := Lib.hid hnb
            have HO2 := Lib.hid hO2
            have HOWN2 := Lib.hid hown2
            have HW2 := Lib.hid hW2
            have hsz2 := hO2.size
            clear hord hO2 hown2 hW2 hqr hnb
            go_wp2_with (at_builtin; rw [← HW2.out]; go_must (refine wpList_append_own_at _ rfl _ _ 25 rfl (w1.heap.size + 3) 3 i0 (.int .i64 0) 1 8 Try.underlying25 HI.out HZ0.out HZ1.out HZ2.out rfl (by omega) _ l.length (ints l) rfl (HOWN2.out.alloc _) ⟨_, 0, none⟩ 1 1 [.int .i64 (qn : Int)] rfl rfl (World.news_of_block HNB.out) (by simp [Value.oneCell']) ?g1 ?g2 ?g3 ?g4))
            case g1 => simp only [maxLen]; omega
            case g2 => omega
            case g3 => first | omega | (simp; omega)
            intro v' w' hown' hgrow' _ hblk'
            obtain ⟨a3, n3, c3, rfl⟩ := owns_slice hown'
            have hbel := ((Below.refl (w1.heap.size + 3) W2).alloc (by omega) (.cells #[.int .i64 (qn : Int)] 3)).trans (grown_below (HOWN2.out.alloc _) hgrow' (by simp; omega))
            have hO3 := HO2.out.step (Nat.le_refl _) hbel
            have HO3 := Lib.hid hO3
            have HOWN3 := Lib.hid (show w'.ownsRow (w1.heap.size + 3) 3 1 (.slice a3 n3 c3) (l ++ [(qn : Int)]).length (ints (l ++ [(qn : Int)])) by simpa [ints, hlr] using hown')
            clear hown' hgrow' hblk' hbel hO3
            go_wp2
            go_roundw
            case measure => simp [intOf]; omega
            case rel => exact ⟨r + 1, _, l ++ [(qn : Int)], by omega, by go_num, by simp [hlr], HO3.out, HOWN3.out, HORD.out.symm⟩
    · obtain rfl : r = n := by omega
      rw [Nat.sub_self, orderS] at hord
      have hyes : ok = true ∧ L = l := by
        rcases HOUT.out with ⟨h1, h2⟩ | ⟨_, _, h2⟩
        · rw [← hord] at h2
          exact ⟨h1, (Option.some.inj h2).symm⟩
        · rw [← hord] at h2; cases h2
      obtain ⟨rfl, rfl⟩ := hyes
      have HOWN := Lib.hid hown
      have HBL := Lib.hid (B1.out.trans (hO.below.mono B1.out.size))
      obtain ⟨a3, n3, c3, rfl⟩ := owns_slice hown
      have hx := hO.bx
      unfold BoxAt at hx
      clear hord hO hown HOUT
      go_wp2_with fail
      go_ret2
      exact ⟨_, rfl, numsR_owned HOWN.out, HBL.out⟩
end Go.Proofs.Ytgphohkofmgdfaa
