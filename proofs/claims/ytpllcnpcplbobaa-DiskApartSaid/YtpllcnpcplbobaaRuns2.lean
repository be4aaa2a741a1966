import Derived.Test.YtpllcnpcplbobaaRuns1
namespace Go.Proofs.Ytpllcnpcplbobaa
open Go.RowKit Go.Maps
set_option linter.unusedVariables false
attribute [local go_sem ↓] Go.wp_at_zero Go.wp_at_succ
theorem DiskAt.no_blk {w : World} {p b N q : Nat} {g : FS} {left : Int} {cs : Array Value} {t : TypeId} (h : DiskAt w p b g left N) (hq : w.heap[q]? = some (.cells cs t (0, 0))) (ht : t ≠ 77) : q ≠ p ∧ q ≠ b := by
  refine ⟨fun e => ?_, fun e => ?_⟩
  · subst e
    rw [h.cells] at hq
    injection hq with hq
    injection hq with _ h2
    exact ht h2.symm
  · subst e
    obtain ⟨D, ⟨es, clock, hb, _⟩, _⟩ := h.files
    rw [hb] at hq
    cases hq
/-- The disk and the reference's, which lies in block q4, say the same. -/
def RunAt (w : World) (q4 S N : Nat) (d : Value) (W : World) : Prop :=
  ∃ (p b : Nat) (a : Option Addr) (n c : Nat) (g : FS) (left : Int), d = .pointer (some ⟨p, 0, none⟩) ∧ DiskAt W p b g left N ∧ W.heap[q4]? = some (.cells #[.slice a n c, .int .i64 left] 57 (0, 0)) ∧ RefAt W (.slice a n c) g N ∧
    -1 ≤ left ∧ left ≤ 9223372036854775807 ∧ Bnd g S ∧ w.heap.size ≤ p ∧ w.heap.size ≤ b ∧ w.heap.size ≤ q4 ∧ Below w.heap.size w W
theorem RunAt.below {w W W' : World} {q4 S N : Nat} {d : Value} (h : RunAt w q4 S N d W) (hb : Below W.heap.size W W') : RunAt w q4 S N d W' := by
  obtain ⟨p, b, a, n, c, g, left, h0, h1, h2, h3, h4, h5, h6, h7, h8, h9, h10⟩ := h
  exact ⟨p, b, a, n, c, g, left, h0, h1.below hb, (hb.block q4 (Array.getElem?_eq_some_iff.1 h2).1).trans h2, h3.below hb, h4, h5, h6, h7, h8, h9, h10.trans (hb.mono h10.size)⟩
theorem readV_pair (g : FS) (x : ByteArray) : ∃ (s : ByteArray) (code : Int), readV g x = .tuple #[.string s, .int .i64 code] := by
  unfold readV
  cases g x with
  | none => exact ⟨_, _, rfl⟩
  | some f => exact ⟨_, _, rfl⟩
theorem blk6 {W : World} {b : Nat} {x0 x1 x2 x3 x4 x5 : Value} {t : TypeId} (h : W.heap[b]? = some (.cells #[x0, x1, x2, x3, x4, x5] t (0, 0))) :
    W.cell? ⟨b, 0, none⟩ = some x0 ∧ W.cell? ⟨b, 1, none⟩ = some x1 ∧ W.cell? ⟨b, 2, none⟩ = some x2 ∧ W.cell? ⟨b, 3, none⟩ = some x3 ∧ W.cell? ⟨b, 4, none⟩ = some x4 ∧ W.cell? ⟨b, 5, none⟩ = some x5 :=
  ⟨by rw [cell_of_row _ _ _ _ _ _ h]; rfl, by rw [cell_of_row _ _ _ _ _ _ h]; rfl, by rw [cell_of_row _ _ _ _ _ _ h]; rfl, by rw [cell_of_row _ _ _ _ _ _ h]; rfl, by rw [cell_of_row _ _ _ _ _ _ h]; rfl, by rw [cell_of_row _ _ _ _ _ _ h]; rfl⟩
/-! A region that makes a block for a result beside calls that make memory: what is known of each world. -/
theorem below_undrew {X W : World} (h : Below X.drew.heap.size X.drew W) : Below X.heap.size X W := ⟨h.os, h.tape, h.output, h.size, h.block⟩
theorem below_drew1 {a w : World} (h : Below a.heap.size a w) : Below a.heap.size a w.drew := h.drew
theorem below_alloc1 {a w : World} {o : Obj} (h : Below a.heap.size a w) : Below a.heap.size a (w.alloc o) := h.alloc h.size _
theorem below_set1 {a w : World} {r i : Nat} {u : Value} (h : Below a.heap.size a w) (hr : a.heap.size ≤ r) : Below a.heap.size a (w.setCell ⟨r, i, none⟩ u) := h.setCell hr _
theorem below_strip1 {X W : World} {o : Obj} (h : Below (X.alloc o).heap.size (X.alloc o) W) : Below X.heap.size X W := ((Below.refl _ _).alloc (Nat.le_refl _) _).trans (h.mono (by simp))
theorem below_strip2 {X W : World} {o o' : Obj} (h : Below ((X.alloc o).alloc o').heap.size ((X.alloc o).alloc o') W) : Below X.heap.size X W := below_strip1 (below_strip1 h)
theorem z_top {X W : World} (h : Below (X.alloc (.cells #[.slice none 0 0, .int .i64 0] 57)).heap.size (X.alloc (.cells #[.slice none 0 0, .int .i64 0] 57)) W) :
    W.heap[X.heap.size]? = some (.cells #[.slice none 0 0, .int .i64 0] 57 (0, 0)) := (h.block _ (by simp)).trans (heap_alloc_new _ _)
theorem z_under {X W : World} {o : Obj} (h : Below ((X.alloc (.cells #[.slice none 0 0, .int .i64 0] 57)).alloc o).heap.size ((X.alloc (.cells #[.slice none 0 0, .int .i64 0] 57)).alloc o) W) :
    W.heap[X.heap.size]? = some (.cells #[.slice none 0 0, .int .i64 0] 57 (0, 0)) := z_top (below_strip1 h)
theorem z_plus {X W : World} {o : Obj} (h : Below ((X.alloc o).alloc (.cells #[.slice none 0 0, .int .i64 0] 57)).heap.size ((X.alloc o).alloc (.cells #[.slice none 0 0, .int .i64 0] 57)) W) :
    W.heap[X.heap.size + 1]? = some (.cells #[.slice none 0 0, .int .i64 0] 57 (0, 0)) := by
  have h1 := z_top h
  simpa using h1
theorem z_old {X W : World} {r : Nat} {o : Obj} (h : X.heap[r]? = some o) (hb : Below X.heap.size X W) : W.heap[r]? = some o := (hb.block r (Array.getElem?_eq_some_iff.1 h).1).trans h
theorem end_alloc {wc wl : World} {q cc N : Nat} {G : FS} {ar : Option Addr} {nr cr : Nat} (hd : DiskAt wl q cc G (-1) N) (hr : RefAt wl (.slice ar nr cr) G N) (hb : Below wc.heap.size wc wl) (hq : wc.heap.size ≤ q) (hc : wc.heap.size ≤ cc) :
    DiskAt (wl.alloc (.cells #[.slice ar nr cr, .int .i64 (-1)] 57)) q cc G (-1) N ∧ (wl.alloc (.cells #[.slice ar nr cr, .int .i64 (-1)] 57)).heap[wl.heap.size]? = some (.cells #[.slice ar nr cr, .int .i64 (-1)] 57 (0, 0)) ∧
      RefAt (wl.alloc (.cells #[.slice ar nr cr, .int .i64 (-1)] 57)) (.slice ar nr cr) G N ∧ Below wc.heap.size wc (wl.alloc (.cells #[.slice ar nr cr, .int .i64 (-1)] 57)) ∧ wc.heap.size ≤ q ∧ wc.heap.size ≤ cc ∧ wc.heap.size ≤ wl.heap.size :=
  ⟨hd.below (below_alloc1 (Below.refl _ _)), heap_alloc_new _ _, hr.below (below_alloc1 (Below.refl _ _)), below_alloc1 hb, hq, hc, hb.size⟩
theorem end_set {wc wl : World} {q cc N r : Nat} {G : FS} {ar : Option Addr} {nr cr : Nat} (hz : wl.heap[r]? = some (.cells #[.slice none 0 0, .int .i64 0] 57 (0, 0))) (hd : DiskAt wl q cc G (-1) N) (hr : RefAt wl (.slice ar nr cr) G N) (hb : Below wc.heap.size wc wl) (hq : wc.heap.size ≤ q) (hc : wc.heap.size ≤ cc) (hrr : wc.heap.size ≤ r) :
    DiskAt ((wl.setCell ⟨r, 0, none⟩ (.slice ar nr cr)).setCell ⟨r, 1, none⟩ (.int .i64 (-1))) q cc G (-1) N ∧ ((wl.setCell ⟨r, 0, none⟩ (.slice ar nr cr)).setCell ⟨r, 1, none⟩ (.int .i64 (-1))).heap[r]? = some (.cells #[.slice ar nr cr, .int .i64 (-1)] 57 (0, 0)) ∧
      RefAt ((wl.setCell ⟨r, 0, none⟩ (.slice ar nr cr)).setCell ⟨r, 1, none⟩ (.int .i64 (-1))) (.slice ar nr cr) G N ∧ Below wc.heap.size wc ((wl.setCell ⟨r, 0, none⟩ (.slice ar nr cr)).setCell ⟨r, 1, none⟩ (.int .i64 (-1))) ∧ wc.heap.size ≤ q ∧ wc.heap.size ≤ cc ∧ wc.heap.size ≤ r := by
  obtain ⟨n1, n2⟩ := hd.no_blk hz (by decide)
  have hbl : ∀ k, k ≠ r → ((wl.setCell ⟨r, 0, none⟩ (.slice ar nr cr)).setCell ⟨r, 1, none⟩ (.int .i64 (-1))).heap[k]? = wl.heap[k]? := fun k hk => (heap_setCell_other _ _ _ _ (by show k ≠ r; exact hk)).trans (heap_setCell_other _ _ _ _ (by show k ≠ r; exact hk))
  exact ⟨⟨(hbl q (fun e => n1 e.symm)).trans hd.cells, hd.files.of_heap (hbl cc (fun e => n2 e.symm))⟩, heap_setCell_same _ r 1 _ _ (.int .i64 (-1)) (heap_setCell_same _ r 0 _ _ (.slice ar nr cr) hz),
    hr.beside (no_string hz (fun _ e => by cases e) (fun _ e => by cases e)) (fun k _ hk => hbl k hk), below_set1 (below_set1 hb hrr) hrr, hq, hc, hrr⟩
/-- Behind the do the reference's disk is written into q4. -/
theorem runAt_done {w w1 : World} {q4 p b N S : Nat} {x : ActL} {g : FS} {left : Int} {a : Option Addr} {n c : Nat} {u v : Value}
    (hd : DiskAt w1 p b (filesA x g left) (leftA x g left) (N + 1)) (hr : RefAt w1 (.slice a n c) (filesA x g left) (N + 1)) (hq : w1.heap[q4]? = some (.cells #[u, v] 57 (0, 0))) (hu : ∀ s, u ≠ .string s) (hv : ∀ s, v ≠ .string s) (hb : Bnd g S)
    (h1 : -1 ≤ left) (h2 : left ≤ 9223372036854775807) (hx : x.n ≤ 9223372036854775807) (hp : w.heap.size ≤ p) (hbb : w.heap.size ≤ b) (hq4 : w.heap.size ≤ q4) (hw : Below w.heap.size w w1) :
    RunAt w q4 (S + x.data.size) (N + 1) (.pointer (some ⟨p, 0, none⟩)) ((w1.setCell ⟨q4, 0, none⟩ (.slice a n c)).setCell ⟨q4, 1, none⟩ (.int .i64 (leftA x g left))) := by
  obtain ⟨n1, n2⟩ := hd.no_blk hq (by decide)
  refine ⟨p, b, a, n, c, filesA x g left, leftA x g left, rfl, ⟨?_, ?_⟩, ?_, ?_, leftA_low h1, leftA_high h2 hx, hb.act x left, hp, hbb, hq4, ?_⟩
  · exact (heap_setCell_other _ _ _ _ (by show p ≠ q4; exact fun e => n1 e.symm)).trans ((heap_setCell_other _ _ _ _ (by show p ≠ q4; exact fun e => n1 e.symm)).trans hd.cells)
  · exact hd.files.of_heap ((heap_setCell_other _ _ _ _ (by show b ≠ q4; exact fun e => n2 e.symm)).trans (heap_setCell_other _ _ _ _ (by show b ≠ q4; exact fun e => n2 e.symm)))
  · have e1 := heap_setCell_same _ q4 0 _ _ (.slice a n c) hq
    exact heap_setCell_same _ q4 1 _ _ (.int .i64 (leftA x g left)) e1
  · exact hr.beside (no_string hq hu hv) (fun k _ hk => (heap_setCell_other _ _ _ _ (by show k ≠ q4; exact hk)).trans (heap_setCell_other _ _ _ _ (by show k ≠ q4; exact hk)))
  · exact (hw.setCell hq4 _).setCell hq4 _
/-- The reference's other disk is written into q4. -/
theorem runAt_put {w w1 : World} {q4 p b N S : Nat} {g : FS} {left : Int} {a : Option Addr} {n c : Nat} {u v : Value}
    (hd : DiskAt w1 p b g left N) (hr : RefAt w1 (.slice a n c) g N) (hq : w1.heap[q4]? = some (.cells #[u, v] 57 (0, 0))) (hu : ∀ s, u ≠ .string s) (hv : ∀ s, v ≠ .string s) (hb : Bnd g S)
    (h1 : -1 ≤ left) (h2 : left ≤ 9223372036854775807) (hp : w.heap.size ≤ p) (hbb : w.heap.size ≤ b) (hq4 : w.heap.size ≤ q4) (hw : Below w.heap.size w w1) :
    RunAt w q4 S N (.pointer (some ⟨p, 0, none⟩)) ((w1.setCell ⟨q4, 0, none⟩ (.slice a n c)).setCell ⟨q4, 1, none⟩ (.int .i64 left)).drew := by
  obtain ⟨n1, n2⟩ := hd.no_blk hq (by decide)
  have hbl : ∀ k, k ≠ q4 → ((w1.setCell ⟨q4, 0, none⟩ (.slice a n c)).setCell ⟨q4, 1, none⟩ (.int .i64 left)).drew.heap[k]? = w1.heap[k]? := fun k hk => (heap_setCell_other _ _ _ _ (by show k ≠ q4; exact hk)).trans (heap_setCell_other _ _ _ _ (by show k ≠ q4; exact hk))
  refine ⟨p, b, a, n, c, g, left, rfl, ⟨(hbl p (fun e => n1 e.symm)).trans hd.cells, hd.files.of_heap (hbl b (fun e => n2 e.symm))⟩, ?_, hr.beside (no_string hq hu hv) (fun k _ hk => hbl k hk), h1, h2, hb, hp, hbb, hq4, ((hw.setCell hq4 _).setCell hq4 _).drew⟩
  exact heap_setCell_same _ q4 1 _ _ (.int .i64 left) (heap_setCell_same _ q4 0 _ _ (.slice a n c) hq)
set_option maxRecDepth 100000 in
set_option maxHeartbeats 4000000 in
theorem druns_any (va : Value) (A : List ActL) (hAm : A.length ≤ 140737488351232) (w : World) (hA : ActsAt w va A) :
    Calls Try.prog 8 #[va] w fun e w' => e = .returned (.bool true) ∧ Below w.heap.size w w' := by
  obtain ⟨aa, ac, hva, hacells⟩ := hA
  subst hva
  have HA := Lib.hid (show ActsAt w (.slice aa A.length ac) A from ⟨aa, ac, rfl, hacells⟩)
  have HAC := Lib.hid hacells
  obtain ⟨na, hna⟩ : ∃ na, na = A.length := ⟨_, rfl⟩
  rw [← hna] at HA hAm ⊢
  have HNA := Lib.hid hna
  clear hacells hna
  have hgreat := fun (W : World) (hb : Below w.heap.size w W) => great7_any (.slice aa na ac) A (by rw [← HNA.out]; exact hAm) W (by
    obtain ⟨a, c, hv, h0 | ⟨b, o, ha, hc⟩⟩ := HA.out
    · exact ⟨a, c, hv, .inl h0⟩
    · exact ⟨a, c, hv, .inr ⟨b, o, ha, fun i hi => (hc i hi).below hb⟩⟩)
  have HGREAT := Lib.hid hgreat
  clear hgreat
  by_cases hbig : 3000 < sumW A
  · have hg1 : greatN A = 1 := if_pos hbig
    have HG1 := Lib.hid hg1
    clear hg1 hbig
    go_enter Try.func8, Try.ntmps8
    go_wp2_with (first | (go_at_call 20; refine (alive_any _).mono ?_; rintro e w1 ⟨rfl, hb1⟩; have B1 := Lib.hid hb1; clear hb1) | (go_at_call 28; refine (HGREAT.out _ B1.out).mono ?_; rintro e w2 ⟨rfl, hb2⟩; rw [HG1.out]; have B2 := Lib.hid hb2; clear hb2))
    go_ret
    exact ⟨rfl, B1.out.trans (B2.out.mono B1.out.size)⟩
  · have hg1 : greatN A = 0 := if_neg hbig
    have HG1 := Lib.hid hg1
    have hsw : sumW A ≤ 3000 := by omega
    clear hg1 hbig
    go_enter Try.func8, Try.ntmps8
    go_wp2_with (first | (go_at_call 20; refine (alive_any _).mono ?_; rintro e w1 ⟨rfl, hb1⟩; have B1 := Lib.hid hb1; clear hb1) | (go_at_call 28; refine (HGREAT.out _ B1.out).mono ?_; rintro e w2 ⟨rfl, hb2⟩; rw [HG1.out]; have B2 := Lib.hid (B1.out.trans (hb2.mono B1.out.size)); clear hb2) | (go_at_call 21; refine (new_disk _).mono ?_; rintro e w3 ⟨p, b, rfl, hd3, hb3, hp, hb, hpb⟩; have D3 := Lib.hid hd3; have B3 := Lib.hid (B2.out.trans (hb3.mono B2.out.size)); have HP := Lib.hid (Nat.le_trans B2.out.size hp); have HB := Lib.hid (Nat.le_trans B2.out.size hb); clear hd3 hb3 hp hb hpb) | (go_at_call 32; refine (rnew_any _).mono ?_; rintro e w4 ⟨rfl, hb4⟩; have D4 := Lib.hid (D3.out.below hb4); have B4 := Lib.hid (B3.out.trans (hb4.mono B3.out.size)); clear hb4))
    have hstart : RunAt w w4.heap.size 0 0 (.pointer (some ⟨p, 0, none⟩)) (w4.alloc (.cells #[.slice none 0 0, .int .i64 (-1)] 57)) :=
      ⟨p, b, none, 0, 0, _, -1, rfl, D4.out.below ((Below.refl _ _).alloc (Nat.le_refl _) _), heap_alloc_new _ _, refAt_nil _, by omega, by omega, Bnd.none, HP.out, HB.out, B4.out.size, B4.out.alloc B4.out.size _⟩
    have HST := Lib.hid hstart
    clear hstart D3 D4 B1 B2 B3 HP HB HGREAT HG1
    go_loopw [3, 25] (fun d i wr => ∃ k : Nat, k ≤ na ∧ i = .int .i64 k ∧ RunAt w w4.heap.size (sumW (A.take k)) k d wr ∧ w4.heap.size < wr.heap.size) (fun _ i _ => na - (intOf i).toNat)
    case atStart => exact ⟨0, by omega, rfl, HST.out, by simp⟩
    case round =>
      obtain ⟨k, hk, rfl, hrun, hq4⟩ := hrel
      by_cases hlt : k < na
      · obtain ⟨p, b, a, n, c, g, left, rfl, hd, hq, hr, hl1, hl2, hbn, hp2, hb2, hq2, hbw⟩ := hrun
        have hAk : k < A.length := by rw [← HNA.out]; exact hlt
        rcases HAC.out with h0 | ⟨b1, o1, rfl, hc1⟩
        · omega
        have hat0 := hc1 k hAk
        have hat := hat0.below hbw
        obtain ⟨x, hx⟩ : ∃ x, x = A[k] := ⟨_, rfl⟩
        rw [← hx] at hat hat0
        have htk : sumW (A.take (k + 1)) = sumW (A.take k) + x.weight := by rw [List.take_succ_eq_append_getElem hAk, sumW_snoc, hx]
        have hle := sumW_take A (k + 1)
        have hlk := length_le_sumW A
        obtain ⟨kd, nn, xn, tn, dt, pv, pk⟩ := x
        obtain ⟨hcell, hnum, hfit⟩ := hat
        have hnum2 := hat0.2.1
        unfold NumsAt at hnum
        dsimp only at hnum hnum2
        clear hat0
        obtain ⟨pa2, pc2, hpv, _, _⟩ := hnum
        subst hpv
        obtain ⟨pn, hpn⟩ : ∃ pn, pn = pk.length := ⟨_, rfl⟩
        rw [← hpn] at hcell hnum2
        have e0 := hcell 0 _ rfl
        have e1 := hcell 1 _ rfl
        have e2 := hcell 2 _ rfl
        have e3 := hcell 3 _ rfl
        have e4 := hcell 4 _ rfl
        have e5 := hcell 5 _ rfl
        simp only [Nat.add_zero] at e0 e1 e2 e3 e4 e5
        obtain ⟨⟨_, hnx⟩, z1, z2, z3, z4⟩ := hfit
        simp only [ActL.weight] at z1 z2 z3 z4 htk hnx
        have hxm : xn.size ≤ maxLen := by simp only [maxLen]; omega
        have htm : tn.size ≤ maxLen := by simp only [maxLen]; omega
        have hk3 : k < 3001 := by have := HNA.out; omega
        have hgs := (hbn.get xn).2.2
        have hpl : pk.length ≤ 3000 := by omega
        have hw0 : Below wr.heap.size wr (wr.alloc (.cells #[.int .i64 kd, .int .i64 nn, .string xn, .string tn, .string dt, .slice pa2 pn pc2] 51)) := (Below.refl _ _).alloc (Nat.le_refl _) _
        have hdo := do_any p b k k g left hl1 hl2 (by simp only [maxLen]; omega) (by omega) (.slice a n c) kd nn xn tn dt pa2 pn pc2 pk hxm htm (by omega) _ (hd.below hw0) (hr.below hw0)
        obtain ⟨y0, y1, y2, y3⟩ := blk2 hq
        obtain ⟨nq1, nq2⟩ := hd.no_blk hq (by decide)
        have hplt := hd.lt
        have hblt := hd.files.lt
        have HDO := Lib.hid hdo
        have HTK := Lib.hid htk
        have HLE := Lib.hid hle
        have HBN := Lib.hid hbn
        have HQ := Lib.hid hq
        have HBW := Lib.hid hbw
        have HNUM := Lib.hid hnum2
        clear hdo htk hbn hq hbw hnum2 hcell hc1 hx hd hr hw0 hpn hgs hlk hle
        go_upto_region 11 with (go_at_call 33; refine (HDO.out).mono ?_; rintro e w1 ⟨v1, rfl, hd1, hr1, ht1⟩; obtain ⟨l1, ⟨a1, c1, rfl, _⟩, _, _⟩ := id hr1; have hT := (turned_of_below ((Below.refl wr.heap.size wr).alloc (Nat.le_refl _) (.cells #[.int .i64 kd, .int .i64 nn, .string xn, .string tn, .string dt, .slice pa2 pn pc2] 51)) p b).trans ht1; have hact := (ht1.block wr.heap.size (by simp) (by omega) (by omega)).trans (heap_alloc_new wr _); have hq4b := (hT.block w4.heap.size hq4 nq1 nq2).trans HQ.out; obtain ⟨y0, y1, y2, y3⟩ := blk2 hq4b; have hs4 : w4.heap.size < w1.heap.size := (by have := hT.size; omega); have hsa : wr.heap.size < w1.heap.size := (by have := ht1.size; simp at this; omega); have HACT := Lib.hid hact; have HQ1 := Lib.hid hq4b; have HT1 := Lib.hid hT; have HD1 := Lib.hid hd1; have HR1 := Lib.hid hr1; clear hact hq4b hT hd1 hr1 ht1)
        have hrun2 := runAt_done HD1.out HR1.out HQ1.out (fun _ e => by cases e) (fun _ e => by cases e) HBN.out hl1 hl2 hnx hp2 hb2 hq2 (HBW.out.trans (HT1.out.below hp2 hb2 HBW.out.size))
        have hact3 : ((w1.setCell ⟨w4.heap.size, 0, none⟩ (.slice a1 l1.length c1)).setCell ⟨w4.heap.size, 1, none⟩ (.int .i64 (leftA ⟨kd, nn, xn, tn, dt, .slice pa2 pn pc2, pk⟩ g left))).heap[wr.heap.size]? = some (.cells #[.int .i64 kd, .int .i64 nn, .string xn, .string tn, .string dt, .slice pa2 pn pc2] 51 (0, 0)) :=
          (heap_setCell_other _ _ _ _ (by show wr.heap.size ≠ w4.heap.size; omega)).trans ((heap_setCell_other _ _ _ _ (by show wr.heap.size ≠ w4.heap.size; omega)).trans HACT.out)
        have HRUN := Lib.hid hrun2
        have HACT3 := Lib.hid hact3
        clear hrun2 hact3 HD1 HR1 HQ1 HT1 HACT
        go_cut [40] (fun s wx => s = .bool false ∧ RunAt w w4.heap.size (sumW (A.take k) + dt.size) (k + 1) (.pointer (some ⟨p, 0, none⟩)) wx ∧ wx.heap[wr.heap.size]? = some (.cells #[.int .i64 kd, .int .i64 nn, .string xn, .string tn, .string dt, .slice pa2 pn pc2] 51 (0, 0)) ∧ wr.heap.size < wx.heap.size)
        case first =>
          go_wp2_with fail
          go_meet
          exact ⟨by simp, HRUN.out.below ((Below.refl _ _).alloc (Nat.le_refl _) _), (heap_alloc_old _ _ (by simp [World.setCell]; omega)).trans HACT3.out, by simp [World.setCell]; omega⟩
        case rest =>
          obtain ⟨rfl, hrun, hact, hsx⟩ := hcut
          clear HRUN HACT3 HDO y0 y1 y2 y3 e0 e1 e2 e3 e4 e5 nq1 nq2 hplt hblt hl1 hl2 hp2 hb2 hs4 hsa HBN HQ
          obtain ⟨c0, c1, c2, c3, c4, c5⟩ := blk6 hact
          have HACT := Lib.hid hact
          have HRUN := Lib.hid hrun
          clear hact hrun
          go_upto_if 43 with (fail)
          go_cut [3] (fun s3 wx => RunAt w w4.heap.size (sumW (A.take k) + dt.size) (k + 1) s3 wx ∧ wx.heap[wr.heap.size]? = some (.cells #[.int .i64 kd, .int .i64 nn, .string xn, .string tn, .string dt, .slice pa2 pn pc2] 51 (0, 0)) ∧ wr.heap.size < wx.heap.size)
          case first =>
            by_cases hk5 : 5 ≤ kd
            · obtain ⟨p', b', a', n', c', g', left', hpe, hd, hq, hr, hl1, hl2, hbn, hp2, hb2, hq2, hbw⟩ := HRUN.out
              obtain rfl : p = p' := by injection hpe with e; injection e with e; injection e
              clear hpe
              have hfok := hbn.ok (by have h1 := HTK.out; have h2 := HLE.out; omega)
              have hkf : ∀ W, Below wc.heap.size wc W → W.cell? ⟨w4.heap.size, 0, none⟩ = some (.slice a' n' c') ∧ W.cell? ⟨w4.heap.size, 1, none⟩ = some (.int .i64 left') ∧ W.cell? ⟨wr.heap.size, 5, none⟩ = some (.slice pa2 pn pc2) := fun W hb => by
                obtain ⟨u0, u1, _, _⟩ := blk2 ((hb.block _ (Array.getElem?_eq_some_iff.1 hq).1).trans hq)
                obtain ⟨_, _, _, _, _, v5⟩ := blk6 ((hb.block _ hsx).trans HACT.out)
                exact ⟨u0, u1, v5⟩
              have hpk0 : NumsAt wc (.slice pa2 pn pc2) pk := HNUM.out.below hbw
              have KF := Lib.hid hkf
              have PK := Lib.hid hpk0
              have HD := Lib.hid hd
              have HR := Lib.hid hr
              have HQ := Lib.hid hq
              have HBN := Lib.hid hbn
              have HFOK := Lib.hid hfok
              have HBW := Lib.hid hbw
              clear hkf hpk0 hd hr hq hbn hfok hbw
              go_upto_region 14 with (fail)
              go_cut [10, 11] (fun s10 s11 wx => ∃ (q cc r : Nat) (ar : Option Addr) (nr cr : Nat) (m : List ByteArray), s10 = .pointer (some ⟨q, 0, none⟩) ∧ s11 = .pointer (some ⟨r, 0, none⟩) ∧ DiskAt wx q cc (crashG g' m pk).1 (-1) (k + 1) ∧ wx.heap[r]? = some (.cells #[.slice ar nr cr, .int .i64 (-1)] 57 (0, 0)) ∧ RefAt wx (.slice ar nr cr) (crashG g' m pk).1 (k + 1) ∧ Below wc.heap.size wc wx ∧ wc.heap.size ≤ q ∧ wc.heap.size ≤ cc ∧ wc.heap.size ≤ r)
              case first =>
                clear c0 c1 c2 c3 c4 c5
                obtain ⟨i0, hi, hz0, hz1, hz2⟩ := info_parts infoInt
                have HI := Lib.hid hi
                have HZ0 := Lib.hid hz0
                have HZ1 := Lib.hid hz1
                have HZ2 := Lib.hid hz2
                clear hi hz0 hz1 hz2
                go_region_held3 (fun W => W.cell? ⟨w4.heap.size, 0, none⟩ = some (.slice a' n' c') ∧ W.cell? ⟨w4.heap.size, 1, none⟩ = some (.int .i64 left') ∧ W.cell? ⟨wr.heap.size, 5, none⟩ = some (.slice pa2 pn pc2)) (exact KF.out _ (by repeat (first | exact Cx.out | exact Below.refl _ _ | apply below_drew1 | apply below_alloc1 | refine below_set1 ?_ (by omega)))) ((first
                  | (refine step_append_nums _ (by rfl) _ _ 48 (by rfl) 3 i0 Try.underlying48 HI.out HZ0.out HZ1.out HZ2.out _ (by rfl) (.slice pa2 pn pc2) (by rfl) pk ?_ ?_ ?_; exact PK.out.below (by (repeat (first | exact Cx.out | exact Below.refl _ _ | apply below_drew1 | apply below_alloc1))); omega; intro vq wl hnp hb; (first | (have hb := below_undrew hb) | skip); (first | (have hz := z_plus hb; have FZ := Lib.hid hz; obtain ⟨zz0, zz1, zz2, zz3⟩ := blk2 hz; clear hz) | (have hz := z_under hb; have FZ := Lib.hid hz; obtain ⟨zz0, zz1, zz2, zz3⟩ := blk2 hz; clear hz) | (have hz := z_top hb; have FZ := Lib.hid hz; obtain ⟨zz0, zz1, zz2, zz3⟩ := blk2 hz; clear hz) | (have hz := z_old FZ.out (below_strip1 hb); have FZ := Lib.hid hz; obtain ⟨zz0, zz1, zz2, zz3⟩ := blk2 hz; clear hz) | (have hz := z_old FZ.out hb; have FZ := Lib.hid hz; obtain ⟨zz0, zz1, zz2, zz3⟩ := blk2 hz; clear hz) | skip); (first | (have hb2 := below_strip2 hb) | (have hb2 := below_strip1 hb) | (have hb2 := hb)); (first | (have Cx := Lib.hid (Cx.out.trans (hb2.mono Cx.out.size))) | (have Cx := Lib.hid hb2)); (first | (have DC := Lib.hid (DC.out.below hb2)) | skip); (first | (have RC := Lib.hid (RC.out.below hb2)) | skip); (first | (have NP := Lib.hid (NP.out.below hb2)) | skip); have hcx := Cx.out.size; have NP := Lib.hid hnp; obtain ⟨ap, cp, rfl, _, _⟩ := id hnp; clear hnp hb hb2)
                  | (go_simp; go_at_call 34; refine (rcrash_any (.slice a' n' c') (.slice pa2 pn pc2) g' (k + 1) (by omega) HFOK.out left' pk (by omega) _ ?_ ?_).mono ?_; exact HR.out.below (by (repeat (first | exact Cx.out | exact Below.refl _ _ | apply below_drew1 | apply below_alloc1))); exact PK.out.below (by (repeat (first | exact Cx.out | exact Below.refl _ _ | apply below_drew1 | apply below_alloc1))); rintro e wl ⟨vr, mr, rfl, hmr, hrr, hb⟩; have HMR := Lib.hid hmr; obtain ⟨lr, ⟨ar, cr, rfl, _⟩, _, _⟩ := id hrr; (first | (have hb := below_undrew hb) | skip); (first | (have hz := z_plus hb; have FZ := Lib.hid hz; obtain ⟨zz0, zz1, zz2, zz3⟩ := blk2 hz; clear hz) | (have hz := z_under hb; have FZ := Lib.hid hz; obtain ⟨zz0, zz1, zz2, zz3⟩ := blk2 hz; clear hz) | (have hz := z_top hb; have FZ := Lib.hid hz; obtain ⟨zz0, zz1, zz2, zz3⟩ := blk2 hz; clear hz) | (have hz := z_old FZ.out (below_strip1 hb); have FZ := Lib.hid hz; obtain ⟨zz0, zz1, zz2, zz3⟩ := blk2 hz; clear hz) | (have hz := z_old FZ.out hb; have FZ := Lib.hid hz; obtain ⟨zz0, zz1, zz2, zz3⟩ := blk2 hz; clear hz) | skip); (first | (have hb2 := below_strip2 hb) | (have hb2 := below_strip1 hb) | (have hb2 := hb)); (first | (have Cx := Lib.hid (Cx.out.trans (hb2.mono Cx.out.size))) | (have Cx := Lib.hid hb2)); (first | (have DC := Lib.hid (DC.out.below hb2)) | skip); (first | (have RC := Lib.hid (RC.out.below hb2)) | skip); (first | (have NP := Lib.hid (NP.out.below hb2)) | skip); have hcx := Cx.out.size; have RC := Lib.hid hrr; clear hmr hrr hb hb2)
                  | (go_simp; go_at_call 29; refine (crash_disk p b' (k + 1) g' left' (by omega) HFOK.out _ pk _ ?_ ?_).mono ?_; exact HD.out.below (by (repeat (first | exact Cx.out | exact Below.refl _ _ | apply below_drew1 | apply below_alloc1))); (first | exact NP.out | exact NP.out.below (below_alloc1 (Below.refl _ _))); rintro e wl ⟨q, cc, ln, rfl, hnm, _, hd6, hb, hqq, hccq⟩; have hq1 : wc.heap.size ≤ q := Nat.le_trans (Below.size (B := wc.heap.size) (w := wc) (by (repeat (first | exact Cx.out | exact Below.refl _ _ | apply below_drew1 | apply below_alloc1)))) hqq; have hq2 : wc.heap.size ≤ cc := Nat.le_trans (Below.size (B := wc.heap.size) (w := wc) (by (repeat (first | exact Cx.out | exact Below.refl _ _ | apply below_drew1 | apply below_alloc1)))) hccq; have NM := Lib.hid hnm; (first | (have hb := below_undrew hb) | skip); (first | (have hz := z_plus hb; have FZ := Lib.hid hz; obtain ⟨zz0, zz1, zz2, zz3⟩ := blk2 hz; clear hz) | (have hz := z_under hb; have FZ := Lib.hid hz; obtain ⟨zz0, zz1, zz2, zz3⟩ := blk2 hz; clear hz) | (have hz := z_top hb; have FZ := Lib.hid hz; obtain ⟨zz0, zz1, zz2, zz3⟩ := blk2 hz; clear hz) | (have hz := z_old FZ.out (below_strip1 hb); have FZ := Lib.hid hz; obtain ⟨zz0, zz1, zz2, zz3⟩ := blk2 hz; clear hz) | (have hz := z_old FZ.out hb; have FZ := Lib.hid hz; obtain ⟨zz0, zz1, zz2, zz3⟩ := blk2 hz; clear hz) | skip); (first | (have hb2 := below_strip2 hb) | (have hb2 := below_strip1 hb) | (have hb2 := hb)); (first | (have Cx := Lib.hid (Cx.out.trans (hb2.mono Cx.out.size))) | (have Cx := Lib.hid hb2)); (first | (have DC := Lib.hid (DC.out.below hb2)) | skip); (first | (have RC := Lib.hid (RC.out.below hb2)) | skip); (first | (have NP := Lib.hid (NP.out.below hb2)) | skip); have hcx := Cx.out.size; have DC := Lib.hid hd6; clear hnm hd6 hb hb2 hqq hccq)))
                all_goals
                  have hrc := RC.out
                  rw [HMR.out ln NM.out] at hrc
                  have HRC := Lib.hid hrc
                  clear hrc
                  go_wp2_with fail
                  go_meet
                  first | exact ⟨q, cc, _, ar, _, cr, ln, rfl, rfl, end_alloc DC.out HRC.out Cx.out hq1 hq2⟩ | exact ⟨q, cc, _, ar, _, cr, ln, rfl, rfl, end_set FZ.out DC.out HRC.out Cx.out hq1 hq2 (by omega)⟩
              case rest =>
                obtain ⟨q, cc, r, ar, nr, cr, m, rfl, rfl, hdc, hrb, hrr, hbw2, hq1, hcc1, hr1⟩ := hcut
                have hS : sumW (A.take k) + dt.size ≤ 1099511627776 := by have h1 := HTK.out; have h2 := HLE.out; omega
                have hbg := HBN.out.crash hS pk m
                obtain ⟨G, hG⟩ : ∃ G, G = (crashG g' m pk).1 := ⟨_, rfl⟩
                rw [← hG] at hdc hrr hbg
                have hact2 := (hbw2.block _ hsx).trans HACT.out
                have hsz2 := hbw2.size
                have hplt := HD.out.lt
                have hblt := HD.out.files.lt
                have hq4l := (Array.getElem?_eq_some_iff.1 HQ.out).1
                have hd2 := HD.out.below hbw2
                have hq2 := (hbw2.block _ hq4l).trans HQ.out
                have hr2 := HR.out.below hbw2
                have hbw3 := HBW.out.trans (hbw2.mono HBW.out.size)
                obtain ⟨v0, v1, _, _⟩ := blk2 hrb
                have hsame := dsame_any q cc (k + 1) (k + 1) G (-1) (-1) (by omega) (by omega) (.slice ar nr cr) _ hdc hrr
                have hrlt := (Array.getElem?_eq_some_iff.1 hrb).1
                have hfx : ∀ W, Below wc.heap.size wc W → W.cell? ⟨wr.heap.size, 0, none⟩ = some (.int .i64 kd) ∧ (W.cell? ⟨w4.heap.size, 0, none⟩ = some (.slice a' n' c') ∧ W.cell? ⟨w4.heap.size, 1, none⟩ = some (.int .i64 left') ∧ W.frozen? ⟨w4.heap.size, 0, none⟩ = false ∧ W.frozen? ⟨w4.heap.size, 1, none⟩ = false) ∧ W.cell? ⟨r, 0, none⟩ = some (.slice ar nr cr) ∧ W.cell? ⟨r, 1, none⟩ = some (.int .i64 (-1)) := fun W hb => by
                  obtain ⟨u0, _, _, _, _, _⟩ := blk6 ((hb.block _ (by omega)).trans hact2)
                  obtain ⟨t0, t1, _, _⟩ := blk2 ((hb.block _ hrlt).trans hrb)
                  exact ⟨u0, blk2 ((hb.block _ (by omega)).trans hq2), t0, t1⟩
                have hap := fun (W : World) h => append_disk q cc (k + 1) G (-1) (by omega) (by omega) (by simp only [maxLen]; omega) ⟨#[111, 116, 104, 101, 114]⟩ ⟨#[120]⟩ (by decide) (by have := (hbg.get ⟨#[111, 116, 104, 101, 114]⟩).2.2; have h1 := HTK.out; have h2 := HLE.out; show _ + 1 ≤ _; omega) W h
                rw [show beginE false G (-1) ⟨#[111, 116, 104, 101, 114]⟩ [⟨#[111, 116, 104, 101, 114]⟩] = 0 by
                  have : memB ⟨#[]⟩ [(⟨#[111, 116, 104, 101, 114]⟩ : ByteArray)] = false := by decide
                  rw [beginE, this]; rfl] at hap
                have HFX := Lib.hid hfx
                have HAPP := Lib.hid hap
                have HSAME := Lib.hid hsame
                have HDC := Lib.hid hdc
                have HRR := Lib.hid hrr
                have HD2 := Lib.hid hd2
                have HQ2 := Lib.hid hq2
                have HR2 := Lib.hid hr2
                have HBW3 := Lib.hid hbw3
                have HBG := Lib.hid hbg
                have HACT2 := Lib.hid hact2
                clear c0 c1 c2 c3 c4 c5 hfx hap hsame hdc hrr hd2 hq2 hr2 hbw3 hbg hact2 hrb hbw2 hG
                by_cases h6 : kd = 6
                · subst h6
                  go_upto_region 18 with (go_at_call 35; refine (HSAME.out).mono ?_; rintro e w5 ⟨rfl, hb5⟩; have B5 := Lib.hid hb5; obtain ⟨u0, ⟨y0, y1, y2, y3⟩, t0, t1⟩ := HFX.out w5 hb5; clear hb5)
                  go_region
                  go_wp2_with fail
                  go_meet
                  have hz := B5.out.size
                  have hq5 := (B5.out.block _ (by omega)).trans HQ2.out
                  have ha5 := (B5.out.block _ (by omega)).trans HACT2.out
                  refine ⟨runAt_put (HDC.out.below B5.out) (HRR.out.below B5.out) hq5 (fun _ e => by cases e) (fun _ e => by cases e) HBG.out (by omega) (by omega) (by omega) (by omega) (by omega) (HBW3.out.trans (B5.out.mono HBW3.out.size)), ?_, by simp [World.setCell]; omega⟩
                  exact (heap_setCell_other _ _ _ _ (by show wr.heap.size ≠ w4.heap.size; omega)).trans ((heap_setCell_other _ _ _ _ (by show wr.heap.size ≠ w4.heap.size; omega)).trans ha5)
                · have hne6 : (kd == 6) = false := by simpa using h6
                  go_wp2_with (first | (go_at_call 35; refine (HSAME.out).mono ?_; rintro e w5 ⟨rfl, hb5⟩; have B5 := Lib.hid hb5; obtain ⟨u0, ⟨y0, y1, y2, y3⟩, t0, t1⟩ := HFX.out w5 hb5; clear hb5) | (go_at_call 23; refine (HAPP.out _ (HDC.out.below B5.out)).mono ?_; rintro e w6 ⟨rfl, hd6, ht6⟩; have T6 := Lib.hid ht6; clear hd6 ht6))
                  go_meet
                  have hz := B5.out.size
                  have hz6 := T6.out.size
                  have hb5 := HBW3.out.trans (B5.out.mono HBW3.out.size)
                  refine ⟨⟨p, b', a', n', c', g', left', rfl, ?_, ?_, ?_, hl1, hl2, HBN.out, hp2, hb2, by omega, ?_⟩, ?_, by omega⟩
                  · exact (HD2.out.below B5.out).beside T6.out (by omega) (by omega) (by omega) (by omega)
                  · exact (T6.out.block _ (by omega) (by omega) (by omega)).trans ((B5.out.block _ (by omega)).trans HQ2.out)
                  · exact (HR2.out.below B5.out).turned (HDC.out.below B5.out) T6.out
                  · exact hb5.trans (T6.out.below (by omega) (by omega) hb5.size)
                  · exact (T6.out.block _ (by omega) (by omega) (by omega)).trans ((B5.out.block _ (by omega)).trans HACT2.out)
            · go_wp2_with fail
              go_meet
              exact ⟨HRUN.out, HACT.out, hsx⟩
          case rest =>
            obtain ⟨⟨p, b, a, n, c, g, left, rfl, hd, hq, hr, hl1, hl2, hbn, hp2, hb2, hq2, hbw⟩, hact, hsx2⟩ := hcut
            clear c0 c1 c2 c3 c4 c5
            have hfacts : ∀ W, Below wc.heap.size wc W → (W.cell? ⟨w4.heap.size, 0, none⟩ = some (.slice a n c) ∧ W.cell? ⟨w4.heap.size, 1, none⟩ = some (.int .i64 left)) ∧ W.cell? ⟨wr.heap.size, 2, none⟩ = some (.string xn) := fun W hb => by
              obtain ⟨u0, u1, _, _⟩ := blk2 ((hb.block _ (Array.getElem?_eq_some_iff.1 hq).1).trans hq)
              obtain ⟨_, _, v2, _, _, _⟩ := blk6 ((hb.block _ hsx2).trans hact)
              exact ⟨⟨u0, u1⟩, v2⟩
            obtain ⟨⟨u0, u1⟩, v2⟩ := hfacts wc (Below.refl _ _)
            obtain ⟨s, code, hsc⟩ := readV_pair g xn
            have hre := read_disk p b (k + 1) g left xn hxm wc hd
            have hrr := fun W h => rread_any (.slice a n c) g (k + 1) (by omega) left xn W h
            rw [hsc] at hre hrr
            have ht : (s.toList == s.toList) = true := by rw [text_beq]; exact decide_eq_true rfl
            have HRE := Lib.hid hre
            have HRR := Lib.hid hrr
            have HD := Lib.hid hd
            have HR := Lib.hid hr
            have HFA := Lib.hid hfacts
            have HRUN := Lib.hid (show RunAt w w4.heap.size (sumW (A.take (k + 1))) (k + 1) (.pointer (some ⟨p, 0, none⟩)) wc from ⟨p, b, a, n, c, g, left, rfl, hd, hq, hr, hl1, hl2, hbn.mono (by rw [HTK.out]; omega), hp2, hb2, hq2, hbw⟩)
            clear hre hrr hsc hd hr hfacts hq hact hbn hbw hl1 hl2
            go_wp2_with (first | (go_at_call 25; refine (HRE.out).mono ?_; rintro e w5 ⟨rfl, hb5⟩; obtain ⟨⟨u0, u1⟩, v2⟩ := HFA.out _ hb5; have B5 := Lib.hid hb5; clear hb5) | (go_at_call 36; refine (HRR.out _ (HR.out.below B5.out)).mono ?_; rintro e w6 ⟨rfl, hb6⟩; have B6 := Lib.hid (B5.out.trans (hb6.mono B5.out.size)); obtain ⟨⟨u0, u1⟩, v2⟩ := HFA.out _ B6.out; clear hb6) | (go_at_call 35; refine (dsame_any p b (k + 1) (k + 1) g left left (by omega) (by omega) (.slice a n c) _ (HD.out.below B6.out) (HR.out.below B6.out)).mono ?_; rintro e w7 ⟨rfl, hb7⟩; have B7 := Lib.hid (B6.out.trans (hb7.mono B6.out.size)); clear hb7))
            go_roundw
            case measure => simp [intOf]; omega
            case rel => exact ⟨k + 1, by omega, by go_num, HRUN.out.below B7.out, by have := B7.out.size; omega⟩
      · obtain ⟨p, b, a, n, c, g, left, rfl, _, _, _, _, _, _, _, _, _, hbw⟩ := hrun
        have HBW := Lib.hid hbw
        clear hbw
        go_wp2
        go_ret
        exact ⟨rfl, HBW.out⟩
end Go.Proofs.Ytpllcnpcplbobaa
