import Derived.Test.YtpllcnpcplbobaaGreatM33
import Derived.Test.YtpllcnpcplbobaaGreatM34
section
namespace Go.Proofs.YtpllcnpcplbobaaGreat
open Go.RowKit Go.Maps
set_option linter.unusedVariables false
def OpenA2 (p b N : Nat) (g : FS) (left : Int) (name : ByteArray) (code : Int) (G : FS) (L : Int) (recs : List ByteArray) (nm : ByteArray) (ok : Bool) : Prop :=
  ∀ w, DiskAt w p b g left N → Calls Tryz.prog 8 #[.pointer (some ⟨p, 0, none⟩), .string name] w fun e w' => ∃ jv rv, e = .returned (.tuple #[jv, rv, .int .i64 code]) ∧ TextsF w.heap.size w' rv recs ∧ DiskAt w' p b G L (N + 4) ∧
    JouAt w' p jv nm ok false ∧ (∀ j, jv = .pointer (some ⟨j, 0, none⟩) → w.heap.size ≤ j) ∧ Turned w w' p b
def OpenB2 (N : Nat) (g : FS) (left : Int) (name : ByteArray) (code : Int) (G : FS) (L : Int) (recs : List ByteArray) (nm : ByteArray) (ok : Bool) : Prop :=
  ∀ va w, RefAt w va g N → Calls Tryz.prog 9 #[.agg #[va, .int .i64 left], .string name] w fun e w' => ∃ v' rv, e = .returned (.tuple #[.agg #[v', .int .i64 L, .string nm, .bool ok, .bool false], rv, .int .i64 code]) ∧
    RefAt w' v' G (N + 4) ∧ TextsF w.heap.size w' rv recs ∧ Below w.heap.size w w'
theorem open_both2 (p b N : Nat) (g : FS) (left : Int) (h1 : -1 ≤ left) (h2 : left ≤ 9223372036854775807) (hN : N ≤ 1000000) (S : Nat) (hS : S ≤ 1000000000) (hb : Bnd g S) (name : ByteArray) (hn : name.size ≤ 20) :
    ∃ code G L recs nm ok, Bnd G S ∧ -1 ≤ L ∧ L ≤ 9223372036854775807 ∧ recs.length ≤ 1000000001 ∧ OpenA2 p b N g left name code G L recs nm ok ∧ OpenB2 N g left name code G L recs nm ok := by
  obtain ⟨code, G, L, recs, nm, k1, k2, k3, k4, k5, k6⟩ := open_both p b N g left h1 h2 hN S hS hb name hn
  exact ⟨code, G, L, recs, nm, decide (code = 0), k1, k2, k3, k4, k5, k6⟩
theorem JouAt.name {W : World} {p : Nat} {jv : Value} {nm : ByteArray} {is br : Bool} (h : JouAt W p jv nm is br) : is = true → nm.size ≤ 20 := fun h1 => by
  rcases h with ⟨_, h2⟩ | ⟨j, _, _, _, _, h4⟩
  · rw [h2] at h1; cases h1
  · exact h4
theorem JouAt.blocks {W W' : World} {p : Nat} {jv : Value} {nm : ByteArray} {is br : Bool} (h : JouAt W p jv nm is br) (hb : ∀ k, jv = .pointer (some ⟨k, 0, none⟩) → k < W.heap.size → W'.heap[k]? = W.heap[k]?) : JouAt W' p jv nm is br := by
  rcases h with h | ⟨j, rfl, h2, h3, h4⟩
  · exact .inl h
  · exact .inr ⟨j, rfl, h2, (hb j rfl h3.lt).trans h3, h4⟩
/-- What the disk does leaves the journal as it is. -/
theorem JouAt.disk {W W' : World} {p b N : Nat} {jv : Value} {nm : ByteArray} {is br : Bool} {g : FS} {left : Int} (h : JouAt W p jv nm is br) (hd : DiskAt W p b g left N) (ht : Turned W W' p b) : JouAt W' p jv nm is br := by
  rcases h with h | ⟨j, h1, h2, h3, h4⟩
  · exact .inl h
  · exact .inr ⟨j, h1, h2, h3.turned hd ht, h4⟩
/-- The journal's value tells whether there is one. -/
theorem JouAt.cases {W : World} {p : Nat} {jv : Value} {nm : ByteArray} {is br : Bool} (h : JouAt W p jv nm is br) : (jv = .pointer none ∧ is = false) ∨ (∃ j, jv = .pointer (some ⟨j, 0, none⟩) ∧ is = true) := by
  rcases h with h | ⟨j, h1, h2, _⟩
  · exact .inl h
  · exact .inr ⟨j, h1, h2⟩
/-- The law's state: the disk, the journal, and the reference's, which lie in block q. -/
def PlayAt (w : World) (q S N : Nat) (d j : Value) (W : World) : Prop :=
  ∃ (p b : Nat) (a : Option Addr) (n c : Nat) (g : FS) (left : Int) (nm : ByteArray) (is br : Bool),
    d = .pointer (some ⟨p, 0, none⟩) ∧ DiskAt W p b g left N ∧ RefAt W (.slice a n c) g N ∧ JBox W q a n c left nm is br ∧ JouAt W p j nm is br ∧
    (-1 ≤ left ∧ left ≤ 9223372036854775807) ∧ Bnd g S ∧ (w.heap.size ≤ p ∧ w.heap.size ≤ b ∧ w.heap.size ≤ q) ∧ (∀ k, j = .pointer (some ⟨k, 0, none⟩) → w.heap.size ≤ k) ∧ Below w.heap.size w W
theorem PlayAt.below {w W W' : World} {q S N : Nat} {d j : Value} (h : PlayAt w q S N d j W) (hb : Below W.heap.size W W') : PlayAt w q S N d j W' := by
  obtain ⟨p, b, a, n, c, g, left, nm, is, br, h0, h1, h2, h3, h4, h5, h6, h7, h8, h9⟩ := h
  exact ⟨p, b, a, n, c, g, left, nm, is, br, h0, h1.below hb, h2.below hb, h3.below hb, h4.below hb, h5, h6, h7, h8, h9.trans (hb.mono h9.size)⟩
theorem PlayAt.mono {w W : World} {q S N S' N' : Nat} {d j : Value} (h : PlayAt w q S N d j W) (hS : S ≤ S') (hN : N ≤ N') : PlayAt w q S' N' d j W := by
  obtain ⟨p, b, a, n, c, g, left, nm, is, br, h0, h1, h2, h3, h4, h5, h6, h7, h8, h9⟩ := h
  exact ⟨p, b, a, n, c, g, left, nm, is, br, h0, h1.mono hN, h2.mono hN, h3, h4, h5, h6.mono hS, h7, h8, h9⟩
theorem set5_other (W : World) (q k : Nat) (hk : k ≠ q) (u0 u1 u2 u3 u4 : Value) : (set5 W q u0 u1 u2 u3 u4).heap[k]? = W.heap[k]? :=
  (heap_setCell_other _ _ _ _ (by show k ≠ q; exact hk)).trans ((heap_setCell_other _ _ _ _ (by show k ≠ q; exact hk)).trans ((heap_setCell_other _ _ _ _ (by show k ≠ q; exact hk)).trans ((heap_setCell_other _ _ _ _ (by show k ≠ q; exact hk)).trans (heap_setCell_other _ _ _ _ (by show k ≠ q; exact hk)))))
/-- The reference's journal is written into q. -/
theorem play_put {w W : World} {q S N p b : Nat} {g : FS} {left l0 : Int} {a a0 : Option Addr} {n c n0 c0 : Nat} {nm nm0 : ByteArray} {is br is0 br0 : Bool} {jv : Value}
    (hD : DiskAt W p b g left N) (hR : RefAt W (.slice a n c) g N) (hX : JBox W q a0 n0 c0 l0 nm0 is0 br0) (hJ : JouAt W p jv nm is br) (hl : -1 ≤ left ∧ left ≤ 9223372036854775807) (hb : Bnd g S)
    (hp : w.heap.size ≤ p ∧ w.heap.size ≤ b ∧ w.heap.size ≤ q) (hj : ∀ k, jv = .pointer (some ⟨k, 0, none⟩) → w.heap.size ≤ k) (hw : Below w.heap.size w W) :
    PlayAt w q S N (.pointer (some ⟨p, 0, none⟩)) jv (set5 W q (.slice a n c) (.int .i64 left) (.string nm) (.bool is) (.bool br)) := by
  obtain ⟨x1, x2, x3⟩ := hX.apart hD hJ
  refine ⟨p, b, a, n, c, g, left, nm, is, br, rfl, ⟨(set5_other W q p (fun e => x1 e.symm) _ _ _ _ _).trans hD.cells, hD.files.of_heap (set5_other W q b (fun e => x2 e.symm) _ _ _ _ _)⟩, hR.set5 hX _ _ _ _ _, ?_, hJ.blocks (fun k e _ => set5_other W q k (fun e2 => x3 (by rw [e, e2])) _ _ _ _ _), hl, hb, hp, hj, ?_⟩
  · have e0 := heap_setCell_same W q 0 _ _ (.slice a n c) hX
    have e1 := heap_setCell_same _ q 1 _ _ (.int .i64 left) e0
    have e2 := heap_setCell_same _ q 2 _ _ (.string nm) e1
    have e3 := heap_setCell_same _ q 3 _ _ (.bool is) e2
    exact heap_setCell_same _ q 4 _ _ (.bool br) e3
  · exact ((((hw.setCell hp.2.2 _).setCell hp.2.2 _).setCell hp.2.2 _).setCell hp.2.2 _).setCell hp.2.2 _
/-- Its disk alone is written. -/
theorem play_put2 {w W : World} {q S N p b : Nat} {g : FS} {left l0 : Int} {a a0 : Option Addr} {n c n0 c0 : Nat} {nm : ByteArray} {is br : Bool} {jv : Value}
    (hD : DiskAt W p b g left N) (hR : RefAt W (.slice a n c) g N) (hX : JBox W q a0 n0 c0 l0 nm is br) (hJ : JouAt W p jv nm is br) (hl : -1 ≤ left ∧ left ≤ 9223372036854775807) (hb : Bnd g S)
    (hp : w.heap.size ≤ p ∧ w.heap.size ≤ b ∧ w.heap.size ≤ q) (hj : ∀ k, jv = .pointer (some ⟨k, 0, none⟩) → w.heap.size ≤ k) (hw : Below w.heap.size w W) :
    PlayAt w q S N (.pointer (some ⟨p, 0, none⟩)) jv ((W.setCell ⟨q, 0, none⟩ (.slice a n c)).setCell ⟨q, 1, none⟩ (.int .i64 left)) := by
  obtain ⟨x1, x2, x3⟩ := hX.apart hD hJ
  have ho : ∀ k, k ≠ q → ((W.setCell ⟨q, 0, none⟩ (.slice a n c)).setCell ⟨q, 1, none⟩ (.int .i64 left)).heap[k]? = W.heap[k]? := fun k hk => (heap_setCell_other _ _ _ _ (by show k ≠ q; exact hk)).trans (heap_setCell_other _ _ _ _ (by show k ≠ q; exact hk))
  have e0 := heap_setCell_same W q 0 _ _ (.slice a n c) hX
  have hX0 : JBox (W.setCell ⟨q, 0, none⟩ (.slice a n c)) q a n c l0 nm is br := e0
  exact ⟨p, b, a, n, c, g, left, nm, is, br, rfl, ⟨(ho p (fun e => x1 e.symm)).trans hD.cells, hD.files.of_heap (ho b (fun e => x2 e.symm))⟩, (hR.setJ hX _).setJ hX0 _, heap_setCell_same _ q 1 _ _ (.int .i64 left) e0, hJ.blocks (fun k e _ => ho k (fun e2 => x3 (by rw [e, e2]))), hl, hb, hp, hj, (hw.setCell hp.2.2 _).setCell hp.2.2 _⟩
/-- A row of texts from behind the box outlives its writing. -/
theorem TextsF.set5 {B q : Nat} {W : World} {v : Value} {l : List ByteArray} (h : TextsF B W v l) (hq : q < B) (u0 u1 u2 u3 u4 : Value) : TextsAt (set5 W q u0 u1 u2 u3 u4) v l :=
  (h.block fun k hk _ => set5_other W q k (by omega) _ _ _ _ _).at
theorem jbox_cells {W : World} {q n c : Nat} {a : Option Addr} {left : Int} {nm : ByteArray} {is br : Bool} (h : JBox W q a n c left nm is br) :
    (W.cell? ⟨q, 0, none⟩ = some (.slice a n c) ∧ W.cell? ⟨q, 1, none⟩ = some (.int .i64 left) ∧ W.cell? ⟨q, 2, none⟩ = some (.string nm) ∧ W.cell? ⟨q, 3, none⟩ = some (.bool is) ∧ W.cell? ⟨q, 4, none⟩ = some (.bool br)) ∧
    W.frozen? ⟨q, 0, none⟩ = false ∧ W.frozen? ⟨q, 1, none⟩ = false ∧ W.frozen? ⟨q, 2, none⟩ = false ∧ W.frozen? ⟨q, 3, none⟩ = false ∧ W.frozen? ⟨q, 4, none⟩ = false := blk5 h
/-- The act's box. -/
def ABox (W : World) (q : Nat) (v0 v1 v2 v3 v4 v5 : Value) : Prop := W.heap[q]? = some (.cells #[v0, v1, v2, v3, v4, v5] 37 (0, 0))
theorem abox_cells {W : World} {q : Nat} {v0 v1 v2 v3 v4 v5 : Value} (h : ABox W q v0 v1 v2 v3 v4 v5) :
    W.cell? ⟨q, 0, none⟩ = some v0 ∧ W.cell? ⟨q, 1, none⟩ = some v1 ∧ W.cell? ⟨q, 2, none⟩ = some v2 ∧ W.cell? ⟨q, 3, none⟩ = some v3 ∧ W.cell? ⟨q, 4, none⟩ = some v4 ∧ W.cell? ⟨q, 5, none⟩ = some v5 :=
  ⟨by rw [cell_of_row _ _ _ _ _ _ h]; rfl, by rw [cell_of_row _ _ _ _ _ _ h]; rfl, by rw [cell_of_row _ _ _ _ _ _ h]; rfl, by rw [cell_of_row _ _ _ _ _ _ h]; rfl, by rw [cell_of_row _ _ _ _ _ _ h]; rfl, by rw [cell_of_row _ _ _ _ _ _ h]; rfl⟩
theorem ABox.below {W W' : World} {q : Nat} {v0 v1 v2 v3 v4 v5 : Value} (h : ABox W q v0 v1 v2 v3 v4 v5) (hb : Below W.heap.size W W') : ABox W' q v0 v1 v2 v3 v4 v5 := (hb.block q (Array.getElem?_eq_some_iff.1 h).1).trans h
theorem ABox.turnJ {W W' : World} {q p b N : Nat} {v0 v1 v2 v3 v4 v5 : Value} {g : FS} {left : Int} {jv : Value} {nm : ByteArray} {is br : Bool} (h : ABox W q v0 v1 v2 v3 v4 v5) (hd : DiskAt W p b g left N) (hj : JouAt W p jv nm is br) (ht : TurnJ W W' p b jv) : ABox W' q v0 v1 v2 v3 v4 v5 := by
  obtain ⟨h1, h2⟩ := hd.no_blk1 h (by decide)
  refine (ht.block q (Array.getElem?_eq_some_iff.1 h).1 h1 h2 fun e => ?_).trans h
  rcases hj with ⟨e2, _⟩ | ⟨j2, e2, _, hb, _⟩
  · rw [e2] at e; cases e
  · rw [e2] at e
    obtain rfl : j2 = q := by simpa using e
    have := hb.symm.trans h
    injection this with this
    injection this with h1 _
    have := congrArg Array.size h1
    simp at this
end Go.Proofs.YtpllcnpcplbobaaGreat
end
section
namespace Go.Proofs.YtpllcnpcplbobaaGreat
open Go.RowKit Go.Maps
set_option linter.unusedVariables false
attribute [local go_sem ↓] Go.wp_at_zero Go.wp_at_succ
theorem great8_no {A : List ActL8} (h : great8 A = false) : A.length ≤ 20 ∧ ∀ x ∈ A, x.bad = false := by
  unfold great8 at h
  obtain ⟨h1, h2⟩ := Bool.or_eq_false_iff.1 h
  refine ⟨by simpa using h2, fun x hx => ?_⟩
  have := List.any_eq_false.1 h1 x hx
  simpa using this
theorem bad_no {x : ActL8} (h : x.bad = false) : x.name.size ≤ 20 ∧ x.recd.size ≤ 100 ∧ x.picks.length ≤ 10 ∧ greatL x.recs = false := by
  unfold ActL8.bad at h
  simpa [and_assoc] using h
set_option maxRecDepth 100000 in
set_option maxHeartbeats 4000000 in
theorem jplays_any (va : Value) (A : List ActL8) (hAm : A.length ≤ 140737488351232) (w : World) (hA : Acts8At w va A) :
    Calls Tryz.prog 3 #[va] w fun e w' => e = .returned (.bool true) ∧ Below w.heap.size w w' := by
  have hA0 := hA
  obtain ⟨aa, ac, hva, hacells⟩ := hA
  subst hva
  have HAC := Lib.hid hacells
  have hgr := great8_any (.slice aa A.length ac) A hAm w hA0
  obtain ⟨na, hna⟩ : ∃ na, na = A.length := ⟨_, rfl⟩
  rw [← hna] at hgr hAm ⊢
  have HNA := Lib.hid hna
  clear hacells hna hA0
  cases hbig : great8 A with
  | true =>
    rw [hbig] at hgr
    have HGR := Lib.hid hgr
    clear hgr hbig
    go_enter Tryz.func3, Tryz.ntmps3
    go_wp2_with (first | (go_at_call 4; refine (HGR.out).mono ?_; rintro e w1 ⟨rfl, hb1⟩; have B1 := Lib.hid hb1; clear hb1) | (go_at_call 5; refine (fixed_any _).mono ?_; rintro e w2 ⟨rfl, hb2⟩; have B2 := Lib.hid hb2; clear hb2))
    go_ret
    exact ⟨rfl, B1.out.trans (B2.out.mono B1.out.size)⟩
  | false =>
    rw [hbig] at hgr
    obtain ⟨hn20, hgood⟩ := great8_no hbig
    rw [← HNA.out] at hn20
    have HGR := Lib.hid hgr
    have HGOOD := Lib.hid hgood
    clear hgr hbig hgood
    go_enter Tryz.func3, Tryz.ntmps3
    go_wp2_with (first | (go_at_call 4; refine (HGR.out).mono ?_; rintro e w1 ⟨rfl, hb1⟩; have B1 := Lib.hid hb1; clear hb1) | (go_at_call 6; refine (new_disk _).mono ?_; rintro e w3 ⟨p, b, rfl, hd3, hb3, hp, hb, hpb⟩; have D3 := Lib.hid hd3; have B3 := Lib.hid (B1.out.trans (hb3.mono B1.out.size)); have HP := Lib.hid (Nat.le_trans B1.out.size hp); have HB := Lib.hid (Nat.le_trans B1.out.size hb); clear hd3 hb3 hp hb hpb) | (go_at_call 7; refine (rnew_any _).mono ?_; rintro e w4 ⟨rfl, hb4⟩; have D4 := Lib.hid (D3.out.below hb4); have B4 := Lib.hid (B3.out.trans (hb4.mono B3.out.size)); clear hb4))
    have hstart : PlayAt w w4.heap.size 0 0 (.pointer (some ⟨p, 0, none⟩)) (.pointer none) (w4.alloc (.cells #[.slice none 0 0, .int .i64 (-1), .string ⟨#[]⟩, .bool false, .bool false] 33)) :=
      ⟨p, b, none, 0, 0, _, -1, ⟨#[]⟩, false, false, rfl, D4.out.below ((Below.refl _ _).alloc (Nat.le_refl _) _), refAt_nil _, heap_alloc_new _ _, .inl ⟨rfl, rfl⟩, ⟨by omega, by omega⟩, Bnd.none, ⟨HP.out, HB.out, B4.out.size⟩, (fun k e => by cases e), B4.out.alloc B4.out.size _⟩
    have HST := Lib.hid hstart
    clear hstart D3 D4 B1 B3 B4 HP HB HGR
    go_loopw [3, 4, 6] (fun d j i wr => ∃ k : Nat, k ≤ na ∧ i = .int .i64 k ∧ PlayAt w w4.heap.size (2000 * k) (4 * k) d j wr ∧ w4.heap.size < wr.heap.size) (fun _ _ i _ => na - (intOf i).toNat)
    case atStart => exact ⟨0, by omega, rfl, HST.out, by simp⟩
    case round =>
      obtain ⟨k, hk, rfl, hrun, hq4⟩ := hrel
      clear HST
      obtain ⟨q5, hq5⟩ : ∃ q5, q5 = w4.heap.size := ⟨_, rfl⟩
      rw [← hq5] at hq4 hrun ⊢
      clear hq5
      by_cases hlt : k < na
      · have hAk : k < A.length := by rw [← HNA.out]; exact hlt
        rcases HAC.out with h0 | ⟨b1, o1, rfl, hc1⟩
        · omega
        obtain ⟨p, b, a, n, c, g, left, nm, is, br, rfl, hd, hr, hx, hj, hl, hbn, hp, hjb, hbw⟩ := hrun
        have hat0 := hc1 k hAk
        have hat := hat0.below hbw
        have hgx := bad_no (HGOOD.out A[k] (List.getElem_mem hAk))
        obtain ⟨x, hxe⟩ : ∃ x, x = A[k] := ⟨_, rfl⟩
        rw [← hxe] at hat hat0 hgx
        obtain ⟨kd, nn, xn, xr, rv, rl, pv, pk⟩ := x
        obtain ⟨hcell, _, _, hfit⟩ := hat
        obtain ⟨_, htxt, hnum, _⟩ := hat0
        dsimp only at htxt hnum hgx
        obtain ⟨ta, tc, hrv, htc⟩ := id htxt
        obtain ⟨pa, pc, hpv, hpc⟩ := id hnum
        subst hrv hpv
        obtain ⟨tn, htn⟩ : ∃ tn, tn = rl.length := ⟨_, rfl⟩
        obtain ⟨pn, hpn⟩ : ∃ pn, pn = pk.length := ⟨_, rfl⟩
        rw [← htn] at hcell htxt
        rw [← hpn] at hcell hnum
        have e0 := hcell 0 _ rfl
        have e1 := hcell 1 _ rfl
        have e2 := hcell 2 _ rfl
        have e3 := hcell 3 _ rfl
        have e4 := hcell 4 _ rfl
        have e5 := hcell 5 _ rfl
        simp only [Nat.add_zero] at e0 e1 e2 e3 e4 e5
        obtain ⟨hgx1, hgx2, hgx3, hgx4⟩ := hgx
        have hkk : k < 20 := by omega
        obtain ⟨⟨z1, z2⟩, _⟩ := hfit
        dsimp only at z1 z2
        have HD := Lib.hid hd
        have HR := Lib.hid hr
        have HX := Lib.hid hx
        have HJ := Lib.hid hj
        have HL := Lib.hid hl
        have HBN := Lib.hid hbn
        have HP := Lib.hid hp
        have HJB := Lib.hid hjb
        have HBW := Lib.hid hbw
        have HT := Lib.hid htxt
        have HNM := Lib.hid hnum
        have HTN := Lib.hid htn
        have HPN := Lib.hid hpn
        have HG4 := Lib.hid hgx4
        clear hd hr hx hj hl hbn hp hjb hbw htxt hnum htn hpn hgx4 hcell hc1 htc hpc hxe
        go_upto_block 2 with (fail)
        obtain ⟨wa, hwa⟩ : ∃ wa, wa = (((wr.alloc (.cells #[.int .i64 kd, .int .i64 nn, .string xn, .string xr, .slice ta tn tc, .slice pa pn pc] 37)).alloc (.cells #[] 9)).alloc (.cells #[] 9)) := ⟨_, rfl⟩
        rw [← hwa]
        have hba : Below wr.heap.size wr wa := by rw [hwa]; exact (((Below.refl _ _).alloc (Nat.le_refl _) _).alloc (by simp) _).alloc (by simp; omega) _
        have hab : ABox wa wr.heap.size (.int .i64 kd) (.int .i64 nn) (.string xn) (.string xr) (.slice ta tn tc) (.slice pa pn pc) := by
          rw [hwa]
          exact (heap_alloc_old _ _ (by simp; omega)).trans ((heap_alloc_old _ _ (by simp)).trans (heap_alloc_new wr _))
        have hsa : q5 < wa.heap.size := Nat.lt_of_lt_of_le hq4 hba.size
        have HDa := Lib.hid (HD.out.below hba)
        have HRa := Lib.hid (HR.out.below hba)
        have HXa := Lib.hid (HX.out.below hba)
        have HJa := Lib.hid (HJ.out.below hba)
        have HBWa := Lib.hid (HBW.out.trans (hba.mono HBW.out.size))
        have HABa := Lib.hid hab
        obtain ⟨⟨y0, y1, y2, y3, y4⟩, f0, f1, f2, f3, f4⟩ := jbox_cells HXa.out
        obtain ⟨c0, c1, c2, c3, c4, c5⟩ := abox_cells hab
        clear hwa hba hab HD HR HX HJ HBW e0 e1 e2 e3 e4 e5
        go_cut [3, 4, 8, 9, 10, 11] (fun d' j' e' n' gv wv wx => ∃ (code : Int) (recs : List ByteArray), e' = .int .i64 code ∧ n' = .int .i64 code ∧ TextsAt wx gv recs ∧ TextsAt wx wv recs ∧ recs.length ≤ 1000000001 ∧ PlayAt w q5 (2000 * (k + 1)) (4 * (k + 1)) d' j' wx ∧ q5 < wx.heap.size)
        case first =>
          by_cases k0 : kd = 0
          · subst k0
            obtain ⟨code, G, L, recs, nm2, ok, hbG, hL1, hL2, hrl, hOA, hOB⟩ := open_both2 p b (4 * k) g left HL.out.1 HL.out.2 (by omega) (2000 * k) (by omega) HBN.out xn hgx1
            have HOA := Lib.hid hOA
            have HOB := Lib.hid hOB
            have HBG := Lib.hid hbG
            clear hOA hOB hbG
            go_wp2_with (first | (go_at_call 8; refine (HOA.out _ HDa.out).mono ?_; rintro e w5 ⟨jv, rv5, rfl, ht5, hd5, hj5, hjf5, hT5⟩; have hz5 := hT5.size; have R5 := Lib.hid (HRa.out.turned HDa.out hT5); have X5 := Lib.hid (HXa.out.turnJ HDa.out HJa.out (hT5.toJ u4)); have A5 := Lib.hid (HABa.out.turnJ HDa.out HJa.out (hT5.toJ u4)); obtain ⟨⟨y0, y1, y2, y3, y4⟩, f0, f1, f2, f3, f4⟩ := jbox_cells X5.out; obtain ⟨c0, c1, c2, c3, c4, c5⟩ := abox_cells A5.out; have BW5 := Lib.hid (HBWa.out.trans ((hT5.toJ u4).below HP.out.1 HP.out.2.1 HJB.out HBWa.out.size)); have D5 := Lib.hid hd5; have J5 := Lib.hid hj5; have JF5 := Lib.hid hjf5; have T5 := Lib.hid ht5; clear hd5 hj5 hjf5 ht5 hT5) | (go_at_call 9; refine (HOB.out _ _ R5.out).mono ?_; rintro e w6 ⟨v6, rv6, rfl, hr6, ht6, hb6⟩; obtain ⟨l6, ⟨a6, k6, rfl, _⟩, _, _⟩ := id hr6; have R6 := Lib.hid hr6; have hz6 := hb6.size; have D6 := Lib.hid (D5.out.below hb6); have J6 := Lib.hid (J5.out.below hb6); have X6 := Lib.hid (X5.out.below hb6); obtain ⟨⟨y0, y1, y2, y3, y4⟩, f0, f1, f2, f3, f4⟩ := jbox_cells X6.out; have BW6 := Lib.hid (BW5.out.trans (hb6.mono BW5.out.size)); have T6 := Lib.hid ht6; have T56 := Lib.hid (T5.out.block fun k _ hk => hb6.block k hk); clear hr6 hb6 ht6))
            go_meet
            exact ⟨code, recs, rfl, rfl, T56.out.set5 hsa _ _ _ _ _, T6.out.set5 (by omega) _ _ _ _ _, hrl, (play_put D6.out R6.out X6.out J6.out ⟨hL1, hL2⟩ HBG.out HP.out (fun j e => Nat.le_trans HBWa.out.size (JF5.out j e)) BW6.out).mono (by omega) (by omega), by simp [World.setCell]; omega⟩
          · have n0 : (kd == 0) = false := by simpa using k0
            by_cases k1 : kd = 1
            · subst k1
              obtain ⟨code, G, L, B, hbG, hL1, hL2, hOA, hOB⟩ := add_both p b (4 * k) g left HL.out.1 HL.out.2 (by omega) (2000 * k) (by omega) HBN.out u4 nm is br xr hgx2
              have HOA := Lib.hid hOA
              have HOB := Lib.hid hOB
              have HBG := Lib.hid hbG
              clear hOA hOB hbG
              go_wp2_with (first | (go_at_call 10; refine (HOA.out _ HDa.out HJa.out).mono ?_; rintro e w5 ⟨rfl, hd5, hj5, hT5⟩; have hz5 := hT5.size; have R5 := Lib.hid (HRa.out.turnJ HDa.out HJa.out hT5); have X5 := Lib.hid (HXa.out.turnJ HDa.out HJa.out hT5); have A5 := Lib.hid (HABa.out.turnJ HDa.out HJa.out hT5); obtain ⟨⟨y0, y1, y2, y3, y4⟩, f0, f1, f2, f3, f4⟩ := jbox_cells X5.out; obtain ⟨c0, c1, c2, c3, c4, c5⟩ := abox_cells A5.out; have BW5 := Lib.hid (HBWa.out.trans (hT5.below HP.out.1 HP.out.2.1 HJB.out HBWa.out.size)); have D5 := Lib.hid hd5; have J5 := Lib.hid hj5; clear hd5 hj5 hT5) | (go_at_call 11; refine (HOB.out _ _ R5.out).mono ?_; rintro e w6 ⟨v6, rfl, hr6, hb6⟩; obtain ⟨l6, ⟨a6, k6, rfl, _⟩, _, _⟩ := id hr6; have R6 := Lib.hid hr6; have hz6 := hb6.size; have D6 := Lib.hid (D5.out.below hb6); have J6 := Lib.hid (J5.out.below hb6); have X6 := Lib.hid (X5.out.below hb6); obtain ⟨⟨y0, y1, y2, y3, y4⟩, f0, f1, f2, f3, f4⟩ := jbox_cells X6.out; have BW6 := Lib.hid (BW5.out.trans (hb6.mono BW5.out.size)); clear hr6 hb6))
              go_meet
              exact ⟨code, [], rfl, rfl, (textsF_nil 0 _ _ _).at, (textsF_nil 0 _ _ _).at, Nat.zero_le _, (play_put D6.out R6.out X6.out J6.out ⟨hL1, hL2⟩ HBG.out HP.out HJB.out BW6.out).mono (by omega) (by omega), by simp [World.setCell]; omega⟩
            · have n1 : (kd == 1) = false := by simpa using k1
              by_cases k2 : kd = 2
              · subst k2
                obtain ⟨hA12, hA100⟩ := great_no HG4.out
                obtain ⟨code, G, L, B, hbG, hL1, hL2, hOA, hOB⟩ := swap_both p b (4 * k) g left HL.out.1 HL.out.2 (by omega) (2000 * k) (by omega) HBN.out u4 nm is br HJa.out.name (.slice ta tn tc) rl hA12 hA100
                have HOA := Lib.hid hOA
                have HOB := Lib.hid hOB
                have HBG := Lib.hid hbG
                clear hOA hOB hbG hA12 hA100
                go_wp2_with (first | (go_at_call 12; refine (HOA.out _ HDa.out HJa.out (HT.out.below HBWa.out)).mono ?_; rintro e w5 ⟨rfl, hd5, hj5, hT5⟩; have hz5 := hT5.size; have R5 := Lib.hid (HRa.out.turnJ HDa.out HJa.out hT5); have X5 := Lib.hid (HXa.out.turnJ HDa.out HJa.out hT5); have A5 := Lib.hid (HABa.out.turnJ HDa.out HJa.out hT5); obtain ⟨⟨y0, y1, y2, y3, y4⟩, f0, f1, f2, f3, f4⟩ := jbox_cells X5.out; obtain ⟨c0, c1, c2, c3, c4, c5⟩ := abox_cells A5.out; have BW5 := Lib.hid (HBWa.out.trans (hT5.below HP.out.1 HP.out.2.1 HJB.out HBWa.out.size)); have D5 := Lib.hid hd5; have J5 := Lib.hid hj5; clear hd5 hj5 hT5) | (go_at_call 13; refine (HOB.out _ _ R5.out (HT.out.below BW5.out)).mono ?_; rintro e w6 ⟨v6, rfl, hr6, hb6⟩; obtain ⟨l6, ⟨a6, k6, rfl, _⟩, _, _⟩ := id hr6; have R6 := Lib.hid hr6; have hz6 := hb6.size; have D6 := Lib.hid (D5.out.below hb6); have J6 := Lib.hid (J5.out.below hb6); have X6 := Lib.hid (X5.out.below hb6); obtain ⟨⟨y0, y1, y2, y3, y4⟩, f0, f1, f2, f3, f4⟩ := jbox_cells X6.out; have BW6 := Lib.hid (BW5.out.trans (hb6.mono BW5.out.size)); clear hr6 hb6))
                go_meet
                exact ⟨code, [], rfl, rfl, (textsF_nil 0 _ _ _).at, (textsF_nil 0 _ _ _).at, Nat.zero_le _, (play_put D6.out R6.out X6.out J6.out ⟨hL1, hL2⟩ HBG.out HP.out HJB.out BW6.out).mono (by omega) (by omega), by simp [World.setCell]; omega⟩
              · have n2 : (kd == 2) = false := by simpa using k2
                by_cases k3 : kd = 3
                · subst k3
                  have hOA := fun W h => budget_disk p b (4 * k) g left nn W h
                  have hOB := fun va W h => rbudget_any va g (4 * k) left nn W h
                  obtain ⟨m, hm⟩ : ∃ m, m = max nn (-1) := ⟨_, rfl⟩
                  have hL1 : -1 ≤ m := by omega
                  have hL2 : m ≤ 9223372036854775807 := by omega
                  rw [← hm] at hOA hOB
                  have HOA := Lib.hid hOA
                  have HOB := Lib.hid hOB
                  clear hOA hOB hm
                  go_wp2_with (first | (go_at_call 14; refine (HOA.out _ HDa.out).mono ?_; rintro e w5 ⟨rfl, hd5, hT5⟩; have hz5 := hT5.size; have R5 := Lib.hid (HRa.out.turned HDa.out hT5); have X5 := Lib.hid (HXa.out.turnJ HDa.out HJa.out (hT5.toJ u4)); have A5 := Lib.hid (HABa.out.turnJ HDa.out HJa.out (hT5.toJ u4)); obtain ⟨⟨y0, y1, y2, y3, y4⟩, f0, f1, f2, f3, f4⟩ := jbox_cells X5.out; obtain ⟨c0, c1, c2, c3, c4, c5⟩ := abox_cells A5.out; have BW5 := Lib.hid (HBWa.out.trans ((hT5.toJ u4).below HP.out.1 HP.out.2.1 HJB.out HBWa.out.size)); have J5 := Lib.hid (HJa.out.disk HDa.out hT5); have D5 := Lib.hid hd5; clear hd5 hT5) | (go_at_call 15; refine (HOB.out _ _ R5.out).mono ?_; rintro e w6 ⟨rfl, hb6⟩; have hr6 := R5.out.below hb6; have R6 := Lib.hid hr6; have hz6 := hb6.size; have D6 := Lib.hid (D5.out.below hb6); have J6 := Lib.hid (J5.out.below hb6); have X6 := Lib.hid (X5.out.below hb6); obtain ⟨⟨y0, y1, y2, y3, y4⟩, f0, f1, f2, f3, f4⟩ := jbox_cells X6.out; have BW6 := Lib.hid (BW5.out.trans (hb6.mono BW5.out.size)); clear hr6 hb6))
                  go_meet
                  exact ⟨0, [], rfl, rfl, (textsF_nil 0 _ _ _).at, (textsF_nil 0 _ _ _).at, Nat.zero_le _, (play_put2 D6.out R6.out X6.out J6.out ⟨hL1, hL2⟩ HBN.out HP.out HJB.out BW6.out).mono (by omega) (by omega), by simp [World.setCell]; omega⟩
                · have n3 : (kd == 3) = false := by simpa using k3
                  by_cases k4 : kd = 4
                  · subst k4
                    have hok := HBN.out.ok (by omega)
                    have HOK := Lib.hid hok
                    clear hok
                    go_wp2_with (first | (go_at_call 16; refine (crash_disk p b (4 * k) g left (by omega) HOK.out (.slice pa pn pc) pk _ HDa.out (HNM.out.below HBWa.out)).mono ?_; rintro e w5 ⟨q, cc, ln, rfl, hnm, _, hd5, hb5, hqq, hcq⟩; have hT5 := turned_of_below hb5 p b; have hz5 := hT5.size; have R5 := Lib.hid (HRa.out.turned HDa.out hT5); have X5 := Lib.hid (HXa.out.turnJ HDa.out HJa.out (hT5.toJ u4)); have A5 := Lib.hid (HABa.out.turnJ HDa.out HJa.out (hT5.toJ u4)); obtain ⟨⟨y0, y1, y2, y3, y4⟩, f0, f1, f2, f3, f4⟩ := jbox_cells X5.out; obtain ⟨c0, c1, c2, c3, c4, c5⟩ := abox_cells A5.out; have BW5 := Lib.hid (HBWa.out.trans ((hT5.toJ u4).below HP.out.1 HP.out.2.1 HJB.out HBWa.out.size)); have NM5 := Lib.hid hnm; have D5 := Lib.hid hd5; have hq1 := Nat.le_trans HBWa.out.size hqq; have hq2 := Nat.le_trans HBWa.out.size hcq; clear hnm hd5 hb5 hT5 hqq hcq) | (go_at_call 17; refine (rcrash_of (.slice a n c) (.slice pa pn pc) g (4 * k) (by omega) HOK.out left pk (by omega) _ NM5.out _ R5.out (HNM.out.below BW5.out)).mono ?_; rintro e w6 ⟨v6, rfl, hr6, hb6⟩; have J5 := Lib.hid (show JouAt w5 q (.pointer none) ⟨#[]⟩ false false from .inl ⟨rfl, rfl⟩); obtain ⟨l6, ⟨a6, k6, rfl, _⟩, _, _⟩ := id hr6; have R6 := Lib.hid hr6; have hz6 := hb6.size; have D6 := Lib.hid (D5.out.below hb6); have J6 := Lib.hid (J5.out.below hb6); have X6 := Lib.hid (X5.out.below hb6); obtain ⟨⟨y0, y1, y2, y3, y4⟩, f0, f1, f2, f3, f4⟩ := jbox_cells X6.out; have BW6 := Lib.hid (BW5.out.trans (hb6.mono BW5.out.size)); clear hr6 hb6))
                    go_meet
                    exact ⟨0, [], rfl, rfl, (textsF_nil 0 _ _ _).at, (textsF_nil 0 _ _ _).at, Nat.zero_le _, (play_put D6.out R6.out X6.out J6.out ⟨by omega, by omega⟩ (HBN.out.crash (by omega) pk _) ⟨hq1, hq2, HP.out.2.2⟩ (fun j e => by cases e) BW6.out).mono (by omega) (by omega), by simp [World.setCell]; omega⟩
                  · have n4 : (kd == 4) = false := by simpa using k4
                    obtain ⟨code, G, L, hbG, hL1, hL2, hOA, hOB⟩ := put_both p b (4 * k) g left HL.out.1 HL.out.2 (by omega) (2000 * k) (by omega) HBN.out xn xr hgx1 hgx2
                    have HOA := Lib.hid hOA
                    have HOB := Lib.hid hOB
                    have HBG := Lib.hid hbG
                    clear hOA hOB hbG
                    go_wp2_with (first | (go_at_call 18; refine (HOA.out _ HDa.out).mono ?_; rintro e w5 ⟨rfl, hd5, hT5⟩; have hz5 := hT5.size; have R5 := Lib.hid (HRa.out.turned HDa.out hT5); have X5 := Lib.hid (HXa.out.turnJ HDa.out HJa.out (hT5.toJ u4)); have A5 := Lib.hid (HABa.out.turnJ HDa.out HJa.out (hT5.toJ u4)); obtain ⟨⟨y0, y1, y2, y3, y4⟩, f0, f1, f2, f3, f4⟩ := jbox_cells X5.out; obtain ⟨c0, c1, c2, c3, c4, c5⟩ := abox_cells A5.out; have BW5 := Lib.hid (HBWa.out.trans ((hT5.toJ u4).below HP.out.1 HP.out.2.1 HJB.out HBWa.out.size)); have J5 := Lib.hid (HJa.out.disk HDa.out hT5); have D5 := Lib.hid hd5; clear hd5 hT5) | (go_at_call 19; refine (HOB.out _ _ R5.out).mono ?_; rintro e w6 ⟨v6, rfl, hr6, hb6⟩; obtain ⟨l6, ⟨a6, k6, rfl, _⟩, _, _⟩ := id hr6; have R6 := Lib.hid hr6; have hz6 := hb6.size; have D6 := Lib.hid (D5.out.below hb6); have J6 := Lib.hid (J5.out.below hb6); have X6 := Lib.hid (X5.out.below hb6); obtain ⟨⟨y0, y1, y2, y3, y4⟩, f0, f1, f2, f3, f4⟩ := jbox_cells X6.out; have BW6 := Lib.hid (BW5.out.trans (hb6.mono BW5.out.size)); clear hr6 hb6))
                    go_meet
                    exact ⟨code, [], rfl, rfl, (textsF_nil 0 _ _ _).at, (textsF_nil 0 _ _ _).at, Nat.zero_le _, (play_put2 D6.out R6.out X6.out J6.out ⟨hL1, hL2⟩ HBG.out HP.out HJB.out BW6.out).mono (by omega) (by omega), by simp [World.setCell]; omega⟩
        case rest =>
          obtain ⟨code, recs, rfl, rfl, htg, htw, hrl, hplay, hq6⟩ := hcut
          clear c0 c1 c2 c3 c4 c5 y0 y1 y2 y3 y4 f0 f1 f2 f3 f4 HDa HRa HXa HJa HBWa HABa HL HBN HP HJB
          have HPLAY := Lib.hid hplay
          obtain ⟨p', b', a', n', c', g', left', nm', is', br', rfl, hd, hr, hx, hj, hl, hbn, hp, hjb, hbw⟩ := hplay
          obtain ⟨⟨y0, y1, y2, y3, y4⟩, f0, f1, f2, f3, f4⟩ := jbox_cells hx
          have hcs := hj.cases
          have HD := Lib.hid hd
          have HR := Lib.hid hr
          have HX := Lib.hid hx
          have HTG := Lib.hid htg
          have HTW := Lib.hid htw
          clear hd hr hx hj hl hbn hp hjb hbw htg htw
          rcases hcs with ⟨rfl, rfl⟩ | ⟨j', rfl, rfl⟩
          all_goals
            go_wp2_with (first | (go_at_call 20; refine (same08_any _ _ recs recs (by omega) _ HTG.out HTW.out).mono ?_; rintro e w7 ⟨rfl, m7, hw7⟩; rw [decide_eq_true rfl]; have B7 := Lib.hid (show Below wc.heap.size wc w7 by rw [hw7]; exact below_drewN (Below.refl _ _) m7); obtain ⟨⟨y0, y1, y2, y3, y4⟩, f0, f1, f2, f3, f4⟩ := jbox_cells (HX.out.below B7.out); clear hw7) | (go_at_call 21; refine (dsame8_any p' b' (4 * (k + 1)) (4 * (k + 1)) g' left' left' (by omega) (by omega) (.slice a' n' c') _ (HD.out.below B7.out) (HR.out.below B7.out)).mono ?_; rintro e w8 ⟨rfl, hb8⟩; have B8 := Lib.hid (B7.out.trans (hb8.mono B7.out.size)); clear hb8))
            go_roundw
            case measure => simp [intOf]; omega
            case rel => exact ⟨k + 1, by omega, by go_num, HPLAY.out.below B8.out, by have := B8.out.size; omega⟩
      · obtain ⟨p, b, a, n, c, g, left, nm, is, br, rfl, _, _, _, _, _, _, _, _, hbw⟩ := hrun
        have HBW := Lib.hid hbw
        clear hbw
        go_wp2_with (go_at_call 5; refine (fixed_any _).mono ?_; rintro e w2 ⟨rfl, hb2⟩; have B2 := Lib.hid hb2; clear hb2)
        go_ret
        exact ⟨rfl, HBW.out.trans (B2.out.mono HBW.out.size)⟩
end Go.Proofs.YtpllcnpcplbobaaGreat
end
