import Derived.Test.YtpllcnpcplbobaaGreatM18
import Derived.Test.YtpllcnpcplbobaaGreatM23
import Derived.Deep.RegionWith
import Derived.Test.YtpllcnpcplbobaaGreatM16
import Derived.Test.YtpllcnpcplbobaaGreatM22
section
namespace Go.Proofs.YtpllcnpcplbobaaGreat
open Go.RowKit Go.Maps
set_option linter.unusedVariables false
attribute [local go_sem ↓] Go.wp_at_zero Go.wp_at_succ
/-- The blocks that Open makes for itself: the disk, the result. -/
def EndsJ (w W : World) (a : Option Addr) (n c : Nat) (left : Int) : Prop :=
  W.heap[w.heap.size]? = some (.cells #[.slice a n c, .int .i64 left] 30 (0, 0)) ∧ W.heap[w.heap.size + 1]? = some (.cells #[.slice none 0 0, .int .i64 0, .string ⟨#[]⟩, .bool false, .bool false] 33 (0, 0)) ∧
  Below w.heap.size w W ∧ w.heap.size + 2 ≤ W.heap.size
theorem endsJ_new (w : World) (a : Option Addr) (n c : Nat) (left : Int) (W : World) (h : Below (w.heap.size + 2) ((w.alloc (.cells #[.slice a n c, .int .i64 left] 30)).alloc (.cells #[.slice none 0 0, .int .i64 0, .string ⟨#[]⟩, .bool false, .bool false] 33)) W) :
    EndsJ w W a n c left := by
  have e1 : (w.alloc (.cells #[.slice a n c, .int .i64 left] 30)).heap.size = w.heap.size + 1 := by simp
  refine ⟨(h.block _ (by omega)).trans ((heap_alloc_old _ _ (by omega)).trans (heap_alloc_new w _)), (h.block _ (by omega)).trans (by rw [← e1]; exact heap_alloc_new _ _), (((Below.refl _ _).alloc (Nat.le_refl _) _).alloc (by omega) _).trans (h.mono (by omega)), ?_⟩
  have := h.size
  simp at this
  omega
section
variable {w W W' : World} {a : Option Addr} {n c : Nat} {left : Int}
theorem EndsJ.below (h : EndsJ w W a n c left) (hb : Below W.heap.size W W') : EndsJ w W' a n c left := by
  obtain ⟨h0, h1, h2, h3⟩ := h
  exact ⟨(hb.block _ (by omega)).trans h0, (hb.block _ (by omega)).trans h1, h2.trans (hb.mono (by omega)), Nat.le_trans h3 hb.size⟩
theorem blk5 {W : World} {b : Nat} {x0 x1 x2 x3 x4 : Value} {t : TypeId} (h : W.heap[b]? = some (.cells #[x0, x1, x2, x3, x4] t (0, 0))) :
    (W.cell? ⟨b, 0, none⟩ = some x0 ∧ W.cell? ⟨b, 1, none⟩ = some x1 ∧ W.cell? ⟨b, 2, none⟩ = some x2 ∧ W.cell? ⟨b, 3, none⟩ = some x3 ∧ W.cell? ⟨b, 4, none⟩ = some x4) ∧
    W.frozen? ⟨b, 0, none⟩ = false ∧ W.frozen? ⟨b, 1, none⟩ = false ∧ W.frozen? ⟨b, 2, none⟩ = false ∧ W.frozen? ⟨b, 3, none⟩ = false ∧ W.frozen? ⟨b, 4, none⟩ = false :=
  ⟨⟨by rw [cell_of_row _ _ _ _ _ _ h]; rfl, by rw [cell_of_row _ _ _ _ _ _ h]; rfl, by rw [cell_of_row _ _ _ _ _ _ h]; rfl, by rw [cell_of_row _ _ _ _ _ _ h]; rfl, by rw [cell_of_row _ _ _ _ _ _ h]; rfl⟩,
    frozen_of_row _ _ _ _ _ h, frozen_of_row _ _ _ _ _ h, frozen_of_row _ _ _ _ _ h, frozen_of_row _ _ _ _ _ h, frozen_of_row _ _ _ _ _ h⟩
theorem EndsJ.put {a2 : Option Addr} {n2 c2 : Nat} {left2 : Int} (h : EndsJ w W a n c left) : EndsJ w ((W.setCell ⟨w.heap.size, 0, none⟩ (.slice a2 n2 c2)).setCell ⟨w.heap.size, 1, none⟩ (.int .i64 left2)) a2 n2 c2 left2 := by
  obtain ⟨h0, h1, h2, h3⟩ := h
  have e0 := heap_setCell_same W w.heap.size 0 _ _ (.slice a2 n2 c2) h0
  have e1 := heap_setCell_same _ w.heap.size 1 _ _ (.int .i64 left2) e0
  refine ⟨e1, ?_, ?_, ?_⟩
  · exact (heap_setCell_other _ _ _ _ (by show w.heap.size + 1 ≠ w.heap.size; omega)).trans ((heap_setCell_other _ _ _ _ (by show w.heap.size + 1 ≠ w.heap.size; omega)).trans h1)
  · exact h2.trans (((Below.refl _ _).setCell (by show w.heap.size ≤ w.heap.size; omega) _).setCell (by show w.heap.size ≤ w.heap.size; omega) _)
  · simpa [World.setCell] using h3
/-- The result's block written. -/
abbrev set5 (W : World) (q : Nat) (u0 u1 u2 u3 u4 : Value) : World := ((((W.setCell ⟨q, 0, none⟩ u0).setCell ⟨q, 1, none⟩ u1).setCell ⟨q, 2, none⟩ u2).setCell ⟨q, 3, none⟩ u3).setCell ⟨q, 4, none⟩ u4
theorem last5 {q : Nat} {x0 x1 x2 x3 x4 : Value} {t : TypeId} (h : W.heap[q]? = some (.cells #[x0, x1, x2, x3, x4] t (0, 0))) (u0 u1 u2 u3 u4 : Value) :
    (set5 W q u0 u1 u2 u3 u4).cell? ⟨q, 0, none⟩ = some u0 ∧ (set5 W q u0 u1 u2 u3 u4).cell? ⟨q, 1, none⟩ = some u1 ∧ (set5 W q u0 u1 u2 u3 u4).cell? ⟨q, 2, none⟩ = some u2 ∧ (set5 W q u0 u1 u2 u3 u4).cell? ⟨q, 3, none⟩ = some u3 ∧ (set5 W q u0 u1 u2 u3 u4).cell? ⟨q, 4, none⟩ = some u4 := by
  have e0 := heap_setCell_same W q 0 _ _ u0 h
  have e1 := heap_setCell_same _ q 1 _ _ u1 e0
  have e2 := heap_setCell_same _ q 2 _ _ u2 e1
  have e3 := heap_setCell_same _ q 3 _ _ u3 e2
  have e4 := heap_setCell_same _ q 4 _ _ u4 e3
  exact (blk5 e4).1
theorem EndsJ.last (h : EndsJ w W a n c left) (u0 u1 u2 u3 u4 : Value) : Below w.heap.size w (set5 W (w.heap.size + 1) u0 u1 u2 u3 u4) :=
  h.2.2.1.trans ((((((Below.refl _ _).setCell (by show w.heap.size ≤ w.heap.size + 1; omega) _).setCell (by show w.heap.size ≤ w.heap.size + 1; omega) _).setCell (by show w.heap.size ≤ w.heap.size + 1; omega) _).setCell (by show w.heap.size ≤ w.heap.size + 1; omega) _).setCell (by show w.heap.size ≤ w.heap.size + 1; omega) _)
end
theorem FilesAt.set5 {w : World} {v : Value} {l : List RF} {q : Nat} {x0 x1 x3 x4 : Value} {s : ByteArray} {t : TypeId} (u0 u1 u2 u3 u4 : Value) (h : FilesAt w v l) (hq : w.heap[q]? = some (.cells #[x0, x1, .string s, x3, x4] t (0, 0))) (h0 : ∀ z, x0 ≠ .string z) (h1 : ∀ z, x1 ≠ .string z) (h3 : ∀ z, x3 ≠ .string z) (h4 : ∀ z, x4 ≠ .string z) :
    FilesAt (set5 w q u0 u1 u2 u3 u4) v l := by
  obtain ⟨a, c, hv, hl | ⟨b, o, ha, hc⟩⟩ := h
  · exact ⟨a, c, hv, .inl hl⟩
  · refine ⟨a, c, hv, ?_⟩
    by_cases hl : l.length = 0
    · exact .inl hl
    · have hb : b ≠ q := fun e => by
        have k0 := hc 0 (by omega) 0 (.string (l[0]'(by omega)).1) rfl
        have k1 := hc 0 (by omega) 1 (.string (l[0]'(by omega)).2.1) rfl
        rw [e, cell_of_row _ _ _ _ _ _ hq] at k0 k1
        match o, k0, k1 with
        | 0, k0, _ => exact h0 _ (Option.some.inj k0)
        | 1, k0, _ => exact h1 _ (Option.some.inj k0)
        | 2, _, k1 => exact h3 _ (Option.some.inj k1)
        | 3, k0, _ => exact h3 _ (Option.some.inj k0)
        | 4, k0, _ => exact h4 _ (Option.some.inj k0)
        | o + 5, k0, _ => cases k0
      have hne : ∀ i k, (⟨q, i, none⟩ : Addr) ≠ ⟨b, k, none⟩ := fun i k e => by injection e with e; exact hb e.symm
      exact .inr ⟨b, o, ha, fun j hj k x hx => by
        rw [World.cell?_setCell_other _ _ _ _ (hne _ _), World.cell?_setCell_other _ _ _ _ (hne _ _), World.cell?_setCell_other _ _ _ _ (hne _ _), World.cell?_setCell_other _ _ _ _ (hne _ _), World.cell?_setCell_other _ _ _ _ (hne _ _)]
        exact hc j hj k x hx⟩
theorem EndsJ.ref {w W : World} {a : Option Addr} {n c : Nat} {left : Int} (h : EndsJ w W a n c left) {v : Value} {g : FS} {N : Nat} (hr : RefAt W v g N) (u0 u1 u2 u3 u4 : Value) : RefAt (set5 W (w.heap.size + 1) u0 u1 u2 u3 u4) v g N := by
  obtain ⟨l, h1, h2, h3⟩ := hr
  exact ⟨l, h1.set5 _ _ _ _ _ h.2.1 (fun _ e => by cases e) (fun _ e => by cases e) (fun _ e => by cases e) (fun _ e => by cases e), h2, h3⟩
end Go.Proofs.YtpllcnpcplbobaaGreat
end
section
namespace Go.Proofs.YtpllcnpcplbobaaGreat
open Go.RowKit Go.Maps
set_option linter.unusedVariables false
attribute [local go_sem ↓] Go.wp_at_zero Go.wp_at_succ
set_option maxRecDepth 100000 in
set_option maxHeartbeats 2000000 in
/-- ref08.Open, where the other file cannot be taken away. -/
theorem ropen_tidy (va : Value) (g : FS) (N : Nat) (hN : N ≤ 1099511627700) (left : Int) (h1 : -1 ≤ left) (h2 : left ≤ 9223372036854775807) (name : ByteArray) (hne : name ≠ ⟨#[]⟩) (hn : name.size ≤ 1099511627776) (ht : oT g left name ≠ 0) (w : World) (hA : RefAt w va g N) :
    Calls Tryz.prog 9 #[.agg #[va, .int .i64 left], .string name] w fun e w' => ∃ v' rv, e = .returned (.tuple #[.agg #[v', .int .i64 (oL1 g left name), .string ⟨#[]⟩, .bool false, .bool false], rv, .int .i64 (oT g left name)]) ∧
      RefAt w' v' (oG1 g left name) N ∧ TextsAt w' rv [] ∧ Below w.heap.size w w' := by
  have hnb := toList_isEmpty hne
  have hcl : ∀ W, RefAt W va g N → Calls Tryz.prog 30 #[.agg #[va, .int .i64 left], .string name] W fun e w' => ∃ v', e = .returned (.tuple #[.agg #[v', .int .i64 (oL1 g left name)], .int .i64 (oT g left name)]) ∧ RefAt w' v' (oG1 g left name) N ∧ Below W.heap.size W w' := fun W h => rclear_any va g N (by omega) left h1 h2 name hn W h
  obtain ⟨tc, htc⟩ : ∃ tc, tc = oT g left name := ⟨_, rfl⟩
  rw [← htc] at ht hcl ⊢
  have hb : (tc != 0) = true := by simpa using ht
  generalize oL1 g left name = L1, oG1 g left name = G1 at hcl ⊢
  obtain ⟨l, ⟨a, c, rfl, _⟩, _, _⟩ := id hA
  obtain ⟨n, hnl⟩ : ∃ n, n = l.length := ⟨_, rfl⟩
  rw [← hnl] at hA hcl ⊢
  have HA := Lib.hid hA
  have HCL := Lib.hid hcl
  have HED := Lib.hid (endsJ_new w a n c left)
  clear hA hcl hnl htc ht hne
  go_enter Tryz.func9, Tryz.ntmps9
  go_wp2_with (go_at_call 30; refine (HCL.out _ (HA.out.below ((((Below.refl _ _).alloc (Nat.le_refl _) _).alloc (by simp) _).alloc (by simp; omega) _))).mono ?_; rintro e w1 ⟨v1, rfl, hr1, hb1⟩; have E1 := Lib.hid (HED.out w1 (((Below.refl _ _).alloc (by simp) _).trans (hb1.mono (by simp)))); have R1 := Lib.hid hr1; obtain ⟨l1, ⟨a1, c1, rfl, _⟩, _⟩ := hr1; clear hb1; obtain ⟨c00, c01, f00, f01⟩ := blk2 E1.out.1; obtain ⟨⟨c10, c11, c12, c13, c14⟩, f10, f11, f12, f13, f14⟩ := blk5 E1.out.2.1)
  have EP := Lib.hid (E1.out.put (a2 := a1) (n2 := l1.length) (c2 := c1) (left2 := L1))
  obtain ⟨r0, r1, r2, r3, r4⟩ := last5 EP.out.2.1 (.slice a1 l1.length c1) (.int .i64 L1) (.string ⟨#[]⟩) (.bool false) (.bool false)
  refine bodyPost_ret (v := .tuple #[.agg #[.slice a1 l1.length c1, .int .i64 L1, .string ⟨#[]⟩, .bool false, .bool false], .slice (some ⟨w.heap.size + 1 + 1, 0, none⟩) 0 0, .int .i64 tc]) (by simp [results, Tryz.results9, go_sem, r0, r1, r2, r3, r4]) rfl ⟨_, _, rfl, EP.out.ref (R1.out.last E1.out.1) _ _ _ _ _, ⟨_, 0, rfl, .inl rfl⟩, EP.out.last _ _ _ _ _⟩
end Go.Proofs.YtpllcnpcplbobaaGreat
end
section
namespace Go.Proofs.YtpllcnpcplbobaaGreat
open Go.RowKit Go.Maps
set_option linter.unusedVariables false
attribute [local go_sem ↓] Go.wp_at_zero Go.wp_at_succ
theorem texts_set5 {w : World} {base q : Nat} {v : Value} {l : List ByteArray} (u0 u1 u2 u3 u4 : Value) (h : w.ownsRow base 9 1 v l.length (strs l)) (hq : q < base) : TextsF base (set5 w q u0 u1 u2 u3 u4) v l :=
  (textsF_owned h).block fun k hk _ => (heap_setCell_other _ _ _ _ (by show k ≠ q; omega)).trans ((heap_setCell_other _ _ _ _ (by show k ≠ q; omega)).trans ((heap_setCell_other _ _ _ _ (by show k ≠ q; omega)).trans ((heap_setCell_other _ _ _ _ (by show k ≠ q; omega)).trans (heap_setCell_other _ _ _ _ (by show k ≠ q; omega)))))
set_option maxRecDepth 100000 in
set_option maxHeartbeats 2000000 in
/-- ref08.Open, where nothing is to be cut. -/
theorem ropen_fine (va : Value) (g : FS) (N : Nat) (hN : N ≤ 1099511627700) (left : Int) (h1 : -1 ≤ left) (h2 : left ≤ 9223372036854775807) (name : ByteArray) (hne : name ≠ ⟨#[]⟩) (hn : name.size ≤ 1099511627776) (ht : oT g left name = 0) (hs1 : (oData g left name).size ≤ 1099511627776)
    (hcut : ¬ (scan (oData g left name)).2 < (oData g left name).size) (w : World) (hA : RefAt w va g N) :
    Calls Tryz.prog 9 #[.agg #[va, .int .i64 left], .string name] w fun e w' => ∃ v' rv, e = .returned (.tuple #[.agg #[v', .int .i64 (oL1 g left name), .string name, .bool true, .bool false], rv, .int .i64 0]) ∧
      RefAt w' v' (oG1 g left name) N ∧ TextsF w.heap.size w' rv (scan (oData g left name)).1 ∧ Below w.heap.size w w' := by
  have hnb := toList_isEmpty hne
  have hcl : ∀ W, RefAt W va g N → Calls Tryz.prog 30 #[.agg #[va, .int .i64 left], .string name] W fun e w' => ∃ v', e = .returned (.tuple #[.agg #[v', .int .i64 (oL1 g left name)], .int .i64 (oT g left name)]) ∧ RefAt w' v' (oG1 g left name) N ∧ Below W.heap.size W w' := fun W h => rclear_any va g N (by omega) left h1 h2 name hn W h
  rw [ht] at hcl
  obtain ⟨rk, hrd⟩ : ∃ rk : Int, ∀ W v, RefAt W v (oG1 g left name) N → Calls Tryz.prog 31 #[.agg #[v, .int .i64 (oL1 g left name)], .string name] W fun e w' => e = .returned (.tuple #[.string (oData g left name), .int .i64 rk]) ∧ Below W.heap.size W w' := by
    obtain ⟨rk, hrk⟩ : ∃ rk : Int, readV (oG1 g left name) name = .tuple #[.string (oData g left name), .int .i64 rk] := by
      unfold readV oData
      cases oG1 g left name name with
      | none => exact ⟨_, rfl⟩
      | some f => exact ⟨_, rfl⟩
    exact ⟨rk, fun W v h => by rw [← hrk]; exact rread_any v _ N (by omega) _ name W h⟩
  have hsn := scan_le (oData g left name)
  have hsc := fun W => rscan_any (oData g left name) hs1 W
  generalize oL1 g left name = L1, oG1 g left name = G1 at hcl hrd ⊢
  generalize oData g left name = dt at hrd hsc hsn hcut hs1 ⊢
  obtain ⟨rs, hrs⟩ : ∃ rs, rs = (scan dt).1 := ⟨_, rfl⟩
  obtain ⟨sn, hsn2⟩ : ∃ sn, sn = (scan dt).2 := ⟨_, rfl⟩
  rw [← hrs, ← hsn2] at hsc
  rw [← hsn2] at hsn hcut
  rw [← hrs]
  obtain ⟨l, ⟨a, c, rfl, _⟩, _, _⟩ := id hA
  obtain ⟨n, hnl⟩ : ∃ n, n = l.length := ⟨_, rfl⟩
  rw [← hnl] at hA hcl ⊢
  have HA := Lib.hid hA
  have HCL := Lib.hid hcl
  have HRD := Lib.hid hrd
  have HSC := Lib.hid hsc
  have HED := Lib.hid (endsJ_new w a n c left)
  clear hA hcl hnl ht hne hrd hsc hrs hsn2
  go_enter Tryz.func9, Tryz.ntmps9
  go_wp2_with (first | (go_at_call 30; refine (HCL.out _ (HA.out.below ((((Below.refl _ _).alloc (Nat.le_refl _) _).alloc (by simp) _).alloc (by simp; omega) _))).mono ?_; rintro e w1 ⟨v1, rfl, hr1, hb1⟩; have E1 := Lib.hid (HED.out w1 (((Below.refl _ _).alloc (by simp) _).trans (hb1.mono (by simp)))); have R1 := Lib.hid hr1; obtain ⟨l1, ⟨a1, c1, rfl, _⟩, _⟩ := hr1; clear hb1; obtain ⟨c00, c01, f00, f01⟩ := blk2 E1.out.1; obtain ⟨⟨c10, c11, c12, c13, c14⟩, f10, f11, f12, f13, f14⟩ := blk5 E1.out.2.1) | (go_at_call 31; clear c00 c01 f00 f01 c10 c11 c12 c13 c14 f10 f11 f12 f13 f14; refine (HRD.out _ _ (R1.out.last E1.out.1)).mono ?_; rintro e w2 ⟨rfl, hb2⟩; have E2 := Lib.hid ((E1.out.put (a2 := a1) (n2 := l1.length) (c2 := c1) (left2 := L1)).below hb2); have R2 := Lib.hid ((R1.out.last E1.out.1).below hb2); clear hb2; obtain ⟨c00, c01, f00, f01⟩ := blk2 E2.out.1; obtain ⟨⟨c10, c11, c12, c13, c14⟩, f10, f11, f12, f13, f14⟩ := blk5 E2.out.2.1) | (go_at_call 32; clear c00 c01 f00 f01 c10 c11 c12 c13 c14 f10 f11 f12 f13 f14; refine (HSC.out _).mono ?_; rintro e w3 ⟨v3, rfl, ho3, hb3⟩; have E3 := Lib.hid (E2.out.below hb3); have R3 := Lib.hid (R2.out.below hb3); have O3 := Lib.hid ho3; obtain ⟨a3, c3, rfl, _⟩ := textsAt_owned ho3; clear hb3 ho3; obtain ⟨c00, c01, f00, f01⟩ := blk2 E3.out.1; obtain ⟨⟨c10, c11, c12, c13, c14⟩, f10, f11, f12, f13, f14⟩ := blk5 E3.out.2.1))
  obtain ⟨r0, r1, r2, r3, r4⟩ := last5 E3.out.2.1 (.slice a1 l1.length c1) (.int .i64 L1) (.string name) (.bool true) (.bool false)
  refine bodyPost_ret (v := .tuple #[.agg #[.slice a1 l1.length c1, .int .i64 L1, .string name, .bool true, .bool false], .slice a3 rs.length c3, .int .i64 0]) (by simp [results, Tryz.results9, go_sem, r0, r1, r2, r3, r4]) rfl ⟨_, _, rfl, E3.out.ref R3.out _ _ _ _ _, (texts_set5 _ _ _ _ _ O3.out (by have := E2.out.2.2.2; omega)).mono (by have := E2.out.2.2.2; omega), E3.out.last _ _ _ _ _⟩
end Go.Proofs.YtpllcnpcplbobaaGreat
end
section
namespace Go.Proofs.YtpllcnpcplbobaaGreat
open Go.RowKit Go.Maps
set_option linter.unusedVariables false
attribute [local go_sem ↓] Go.wp_at_zero Go.wp_at_succ
theorem EndsJ.drew {w W : World} {a : Option Addr} {n c : Nat} {left : Int} (h : EndsJ w W a n c left) : EndsJ w W.drew a n c left := ⟨h.1, h.2.1, h.2.2.1.drew, h.2.2.2⟩
theorem owns_two {W : World} {q base : Nat} {e : TypeId} {size : Nat} {v : Value} {m : Nat} {xs : List Value} (h : W.ownsRow base e size v m xs) (hb : q < base) (u u' : Value) : ((W.setCell ⟨q, 0, none⟩ u).setCell ⟨q, 1, none⟩ u').ownsRow base e size v m xs := by
  have g1 : W.grownBy (W.setCell ⟨q, 0, none⟩ u) (some q) := only_setCell (only_of_below (Below.refl _ _) _) (.inl rfl) _
  have g2 : W.grownBy ((W.setCell ⟨q, 0, none⟩ u).setCell ⟨q, 1, none⟩ u') (some q) := only_setCell g1 (.inl rfl) _
  refine h.kept g2 ?_
  cases hv : v.ownBlock with
  | none => exact .inl rfl
  | some k =>
    have := (h.lt k hv).1
    refine .inr fun e => ?_
    injection e with e
    omega
set_option maxRecDepth 100000 in
set_option maxHeartbeats 2000000 in
/-- ref08.Open, where something is to be cut. -/
theorem ropen_cut (va : Value) (g : FS) (N : Nat) (hN : N ≤ 1099511627700) (left : Int) (h1 : -1 ≤ left) (h2 : left ≤ 9223372036854775807) (name : ByteArray) (hne : name ≠ ⟨#[]⟩) (hn : name.size ≤ 1099511627776) (ht : oT g left name = 0) (hs1 : (oData g left name).size ≤ 1099511627776)
    (hcut : (scan (oData g left name)).2 < (oData g left name).size) (hs2 : ((oG1 g left name (name ++ sufx)).getD noFile).1.size + (oData g left name).size ≤ 1099511627776) (hz : nCode (oG1 g left name) (oL1 g left name) (name ++ sufx) (oHead g left name) name = 0) (w : World) (hA : RefAt w va g N) :
    Calls Tryz.prog 9 #[.agg #[va, .int .i64 left], .string name] w fun e w' => ∃ v' rv, e = .returned (.tuple #[.agg #[v', .int .i64 (nL (oG1 g left name) (oL1 g left name) (name ++ sufx) (oHead g left name) name), .string name, .bool true, .bool false], rv, .int .i64 0]) ∧
      RefAt w' v' (nG (oG1 g left name) (oL1 g left name) (name ++ sufx) (oHead g left name) name) (N + 3) ∧ TextsF w.heap.size w' rv (scan (oData g left name)).1 ∧ Below w.heap.size w w' := by
  have hnb := toList_isEmpty hne
  have hcl : ∀ W, RefAt W va g N → Calls Tryz.prog 30 #[.agg #[va, .int .i64 left], .string name] W fun e w' => ∃ v', e = .returned (.tuple #[.agg #[v', .int .i64 (oL1 g left name)], .int .i64 (oT g left name)]) ∧ RefAt w' v' (oG1 g left name) N ∧ Below W.heap.size W w' := fun W h => rclear_any va g N (by omega) left h1 h2 name hn W h
  rw [ht] at hcl
  obtain ⟨rk, hrd⟩ : ∃ rk : Int, ∀ W v, RefAt W v (oG1 g left name) N → Calls Tryz.prog 31 #[.agg #[v, .int .i64 (oL1 g left name)], .string name] W fun e w' => e = .returned (.tuple #[.string (oData g left name), .int .i64 rk]) ∧ Below W.heap.size W w' := by
    obtain ⟨rk, hrk⟩ : ∃ rk : Int, readV (oG1 g left name) name = .tuple #[.string (oData g left name), .int .i64 rk] := by
      unfold readV oData
      cases oG1 g left name name with
      | none => exact ⟨_, rfl⟩
      | some f => exact ⟨_, rfl⟩
    exact ⟨rk, fun W v h => by rw [← hrk]; exact rread_any v _ N (by omega) _ name W h⟩
  have hsn := scan_le (oData g left name)
  have hsc := fun W => rscan_any (oData g left name) hs1 W
  have L1l := tidyL_low (g := g) (x := name ++ sufx) h1
  have L1h := tidyL_high (g := g) (x := name ++ sufx) h2
  have hhs : (oHead g left name).size ≤ (oData g left name).size := by unfold oHead; rw [ByteArray.size_extract]; omega
  have han : ∀ W v, RefAt W v (oG1 g left name) N → Calls Tryz.prog 33 #[.agg #[v, .int .i64 (oL1 g left name)], .string name, .string (oHead g left name)] W fun e w' => ∃ v', e = .returned (.tuple #[.agg #[v', .int .i64 (nL (oG1 g left name) (oL1 g left name) (name ++ sufx) (oHead g left name) name)], .int .i64 (nCode (oG1 g left name) (oL1 g left name) (name ++ sufx) (oHead g left name) name)]) ∧ RefAt w' v' (nG (oG1 g left name) (oL1 g left name) (name ++ sufx) (oHead g left name) name) (N + 3) ∧ Below W.heap.size W w' := fun W v h => ranew_any v _ N hN _ L1l L1h name _ hn (by omega) W h
  have hhd : oHead g left name = (oData g left name).extract 0 (scan (oData g left name)).2 := rfl
  obtain ⟨cc, hcc⟩ : ∃ cc, cc = nCode (oG1 g left name) (oL1 g left name) (name ++ sufx) (oHead g left name) name := ⟨_, rfl⟩
  rw [← hcc] at han hz
  clear hcc
  generalize nL (oG1 g left name) (oL1 g left name) (name ++ sufx) (oHead g left name) name = L4, nG (oG1 g left name) (oL1 g left name) (name ++ sufx) (oHead g left name) name = G4 at han ⊢
  obtain ⟨hd, hhd2⟩ : ∃ hd, hd = oHead g left name := ⟨_, rfl⟩
  rw [← hhd2] at han hhd
  clear hhd2 hhs hs2 L1l L1h
  generalize oL1 g left name = L1, oG1 g left name = G1 at hcl hrd han
  generalize oData g left name = dt at hrd hsc hsn hcut hs1 hhd ⊢
  obtain ⟨rs, hrs⟩ : ∃ rs, rs = (scan dt).1 := ⟨_, rfl⟩
  obtain ⟨sn, hsn2⟩ : ∃ sn, sn = (scan dt).2 := ⟨_, rfl⟩
  rw [← hrs, ← hsn2] at hsc
  rw [← hsn2] at hsn hcut hhd
  have hcutr := run_cut_high (P := Tryz.prog) 9 Tryz.underlying9 dt sn hsn (sn : Int) rfl
  rw [← hhd] at hcutr
  rw [← hrs]
  obtain ⟨l, ⟨a, c, rfl, _⟩, _, _⟩ := id hA
  obtain ⟨n, hnl⟩ : ∃ n, n = l.length := ⟨_, rfl⟩
  rw [← hnl] at hA hcl ⊢
  have HA := Lib.hid hA
  have HCL := Lib.hid hcl
  have HRD := Lib.hid hrd
  have HSC := Lib.hid hsc
  subst hz
  have HAN := Lib.hid han
  have HED := Lib.hid (endsJ_new w a n c left)
  clear hA hcl hnl ht hne hrd hsc hrs hsn2 han hhd
  go_enter Tryz.func9, Tryz.ntmps9
  go_upto_region 10 with (first | (go_at_call 30; refine (HCL.out _ (HA.out.below ((((Below.refl _ _).alloc (Nat.le_refl _) _).alloc (by simp) _).alloc (by simp; omega) _))).mono ?_; rintro e w1 ⟨v1, rfl, hr1, hb1⟩; have E1 := Lib.hid (HED.out w1 (((Below.refl _ _).alloc (by simp) _).trans (hb1.mono (by simp)))); have R1 := Lib.hid hr1; obtain ⟨l1, ⟨a1, c1, rfl, _⟩, _⟩ := hr1; clear hb1; obtain ⟨c00, c01, f00, f01⟩ := blk2 E1.out.1; obtain ⟨⟨c10, c11, c12, c13, c14⟩, f10, f11, f12, f13, f14⟩ := blk5 E1.out.2.1) | (go_at_call 31; clear c00 c01 f00 f01 c10 c11 c12 c13 c14 f10 f11 f12 f13 f14; refine (HRD.out _ _ (R1.out.last E1.out.1)).mono ?_; rintro e w2 ⟨rfl, hb2⟩; have E2 := Lib.hid ((E1.out.put (a2 := a1) (n2 := l1.length) (c2 := c1) (left2 := L1)).below hb2); have R2 := Lib.hid ((R1.out.last E1.out.1).below hb2); clear hb2; obtain ⟨c00, c01, f00, f01⟩ := blk2 E2.out.1; obtain ⟨⟨c10, c11, c12, c13, c14⟩, f10, f11, f12, f13, f14⟩ := blk5 E2.out.2.1) | (go_at_call 32; clear c00 c01 f00 f01 c10 c11 c12 c13 c14 f10 f11 f12 f13 f14; refine (HSC.out _).mono ?_; rintro e w3 ⟨v3, rfl, ho3, hb3⟩; have E3 := Lib.hid (E2.out.below hb3); have R3 := Lib.hid (R2.out.below hb3); have O3 := Lib.hid ho3; obtain ⟨a3, c3, rfl, _⟩ := textsAt_owned ho3; clear hb3 ho3; obtain ⟨c00, c01, f00, f01⟩ := blk2 E3.out.1; obtain ⟨⟨c10, c11, c12, c13, c14⟩, f10, f11, f12, f13, f14⟩ := blk5 E3.out.2.1))
  go_region_with (go_at_call 33; clear c00 c01 f00 f01 c10 c11 c12 c13 c14 f10 f11 f12 f13 f14; refine (HAN.out _ _ (R3.out.below ((Below.refl _ _).drew))).mono ?_; rintro e w4 ⟨v4, rfl, hr4, hb4⟩; have E4 := Lib.hid (EndsJ.below (W := w3.drew) E3.out.drew hb4); have R4 := Lib.hid hr4; have O4 := Lib.hid (owns_below (w := w3.drew) O3.out hb4); obtain ⟨l4, ⟨a4, c4, rfl, _⟩, _⟩ := hr4; clear hb4; obtain ⟨c00, c01, f00, f01⟩ := blk2 E4.out.1; obtain ⟨⟨c10, c11, c12, c13, c14⟩, f10, f11, f12, f13, f14⟩ := blk5 E4.out.2.1)
  go_wp2
  have EP := Lib.hid (E4.out.put (a2 := a4) (n2 := l4.length) (c2 := c4) (left2 := L4))
  obtain ⟨r0, r1, r2, r3, r4⟩ := last5 EP.out.2.1 (.slice a4 l4.length c4) (.int .i64 L4) (.string name) (.bool true) (.bool false)
  refine bodyPost_ret (v := .tuple #[.agg #[.slice a4 l4.length c4, .int .i64 L4, .string name, .bool true, .bool false], .slice a3 rs.length c3, .int .i64 0]) (by simp [results, Tryz.results9, go_sem, r0, r1, r2, r3, r4]) rfl ⟨_, _, rfl, EP.out.ref (R4.out.last E4.out.1) _ _ _ _ _, (texts_set5 _ _ _ _ _ (owns_two O4.out (by have := E2.out.2.2.2; omega) _ _) (by have := E2.out.2.2.2; omega)).mono (by have := E2.out.2.2.2; omega), EP.out.last _ _ _ _ _⟩
set_option maxRecDepth 100000 in
set_option maxHeartbeats 2000000 in
/-- ref08.Open, where something is to be cut, and that fails. -/
theorem ropen_cutnot (va : Value) (g : FS) (N : Nat) (hN : N ≤ 1099511627700) (left : Int) (h1 : -1 ≤ left) (h2 : left ≤ 9223372036854775807) (name : ByteArray) (hne : name ≠ ⟨#[]⟩) (hn : name.size ≤ 1099511627776) (ht : oT g left name = 0) (hs1 : (oData g left name).size ≤ 1099511627776)
    (hcut : (scan (oData g left name)).2 < (oData g left name).size) (hs2 : ((oG1 g left name (name ++ sufx)).getD noFile).1.size + (oData g left name).size ≤ 1099511627776) (hz : nCode (oG1 g left name) (oL1 g left name) (name ++ sufx) (oHead g left name) name ≠ 0) (w : World) (hA : RefAt w va g N) :
    Calls Tryz.prog 9 #[.agg #[va, .int .i64 left], .string name] w fun e w' => ∃ v' rv, e = .returned (.tuple #[.agg #[v', .int .i64 (nL (oG1 g left name) (oL1 g left name) (name ++ sufx) (oHead g left name) name), .string ⟨#[]⟩, .bool false, .bool false], rv, .int .i64 (nCode (oG1 g left name) (oL1 g left name) (name ++ sufx) (oHead g left name) name)]) ∧
      RefAt w' v' (nG (oG1 g left name) (oL1 g left name) (name ++ sufx) (oHead g left name) name) (N + 3) ∧ TextsAt w' rv [] ∧ Below w.heap.size w w' := by
  have hnb := toList_isEmpty hne
  have hcl : ∀ W, RefAt W va g N → Calls Tryz.prog 30 #[.agg #[va, .int .i64 left], .string name] W fun e w' => ∃ v', e = .returned (.tuple #[.agg #[v', .int .i64 (oL1 g left name)], .int .i64 (oT g left name)]) ∧ RefAt w' v' (oG1 g left name) N ∧ Below W.heap.size W w' := fun W h => rclear_any va g N (by omega) left h1 h2 name hn W h
  rw [ht] at hcl
  obtain ⟨rk, hrd⟩ : ∃ rk : Int, ∀ W v, RefAt W v (oG1 g left name) N → Calls Tryz.prog 31 #[.agg #[v, .int .i64 (oL1 g left name)], .string name] W fun e w' => e = .returned (.tuple #[.string (oData g left name), .int .i64 rk]) ∧ Below W.heap.size W w' := by
    obtain ⟨rk, hrk⟩ : ∃ rk : Int, readV (oG1 g left name) name = .tuple #[.string (oData g left name), .int .i64 rk] := by
      unfold readV oData
      cases oG1 g left name name with
      | none => exact ⟨_, rfl⟩
      | some f => exact ⟨_, rfl⟩
    exact ⟨rk, fun W v h => by rw [← hrk]; exact rread_any v _ N (by omega) _ name W h⟩
  have hsn := scan_le (oData g left name)
  have hsc := fun W => rscan_any (oData g left name) hs1 W
  have L1l := tidyL_low (g := g) (x := name ++ sufx) h1
  have L1h := tidyL_high (g := g) (x := name ++ sufx) h2
  have hhs : (oHead g left name).size ≤ (oData g left name).size := by unfold oHead; rw [ByteArray.size_extract]; omega
  have han : ∀ W v, RefAt W v (oG1 g left name) N → Calls Tryz.prog 33 #[.agg #[v, .int .i64 (oL1 g left name)], .string name, .string (oHead g left name)] W fun e w' => ∃ v', e = .returned (.tuple #[.agg #[v', .int .i64 (nL (oG1 g left name) (oL1 g left name) (name ++ sufx) (oHead g left name) name)], .int .i64 (nCode (oG1 g left name) (oL1 g left name) (name ++ sufx) (oHead g left name) name)]) ∧ RefAt w' v' (nG (oG1 g left name) (oL1 g left name) (name ++ sufx) (oHead g left name) name) (N + 3) ∧ Below W.heap.size W w' := fun W v h => ranew_any v _ N hN _ L1l L1h name _ hn (by omega) W h
  have hhd : oHead g left name = (oData g left name).extract 0 (scan (oData g left name)).2 := rfl
  obtain ⟨cc, hcc⟩ : ∃ cc, cc = nCode (oG1 g left name) (oL1 g left name) (name ++ sufx) (oHead g left name) name := ⟨_, rfl⟩
  rw [← hcc] at han hz ⊢
  clear hcc
  generalize nL (oG1 g left name) (oL1 g left name) (name ++ sufx) (oHead g left name) name = L4, nG (oG1 g left name) (oL1 g left name) (name ++ sufx) (oHead g left name) name = G4 at han ⊢
  obtain ⟨hd, hhd2⟩ : ∃ hd, hd = oHead g left name := ⟨_, rfl⟩
  rw [← hhd2] at han hhd
  clear hhd2 hhs hs2 L1l L1h
  generalize oL1 g left name = L1, oG1 g left name = G1 at hcl hrd han
  generalize oData g left name = dt at hrd hsc hsn hcut hs1 hhd
  obtain ⟨rs, hrs⟩ : ∃ rs, rs = (scan dt).1 := ⟨_, rfl⟩
  obtain ⟨sn, hsn2⟩ : ∃ sn, sn = (scan dt).2 := ⟨_, rfl⟩
  rw [← hrs, ← hsn2] at hsc
  rw [← hsn2] at hsn hcut hhd
  have hcutr := run_cut_high (P := Tryz.prog) 9 Tryz.underlying9 dt sn hsn (sn : Int) rfl
  rw [← hhd] at hcutr
  obtain ⟨l, ⟨a, c, rfl, _⟩, _, _⟩ := id hA
  obtain ⟨n, hnl⟩ : ∃ n, n = l.length := ⟨_, rfl⟩
  rw [← hnl] at hA hcl ⊢
  have HA := Lib.hid hA
  have HCL := Lib.hid hcl
  have HRD := Lib.hid hrd
  have HSC := Lib.hid hsc
  have hzb : (cc != 0) = true := by simpa using hz
  clear hz
  have HAN := Lib.hid han
  have HED := Lib.hid (endsJ_new w a n c left)
  clear hA hcl hnl ht hne hrd hsc hrs hsn2 han hhd
  go_enter Tryz.func9, Tryz.ntmps9
  go_upto_region 10 with (first | (go_at_call 30; refine (HCL.out _ (HA.out.below ((((Below.refl _ _).alloc (Nat.le_refl _) _).alloc (by simp) _).alloc (by simp; omega) _))).mono ?_; rintro e w1 ⟨v1, rfl, hr1, hb1⟩; have E1 := Lib.hid (HED.out w1 (((Below.refl _ _).alloc (by simp) _).trans (hb1.mono (by simp)))); have R1 := Lib.hid hr1; obtain ⟨l1, ⟨a1, c1, rfl, _⟩, _⟩ := hr1; clear hb1; obtain ⟨c00, c01, f00, f01⟩ := blk2 E1.out.1; obtain ⟨⟨c10, c11, c12, c13, c14⟩, f10, f11, f12, f13, f14⟩ := blk5 E1.out.2.1) | (go_at_call 31; clear c00 c01 f00 f01 c10 c11 c12 c13 c14 f10 f11 f12 f13 f14; refine (HRD.out _ _ (R1.out.last E1.out.1)).mono ?_; rintro e w2 ⟨rfl, hb2⟩; have E2 := Lib.hid ((E1.out.put (a2 := a1) (n2 := l1.length) (c2 := c1) (left2 := L1)).below hb2); have R2 := Lib.hid ((R1.out.last E1.out.1).below hb2); clear hb2; obtain ⟨c00, c01, f00, f01⟩ := blk2 E2.out.1; obtain ⟨⟨c10, c11, c12, c13, c14⟩, f10, f11, f12, f13, f14⟩ := blk5 E2.out.2.1) | (go_at_call 32; clear c00 c01 f00 f01 c10 c11 c12 c13 c14 f10 f11 f12 f13 f14; refine (HSC.out _).mono ?_; rintro e w3 ⟨v3, rfl, ho3, hb3⟩; have E3 := Lib.hid (E2.out.below hb3); have R3 := Lib.hid (R2.out.below hb3); have O3 := Lib.hid ho3; obtain ⟨a3, c3, rfl, _⟩ := textsAt_owned ho3; clear hb3 ho3; obtain ⟨c00, c01, f00, f01⟩ := blk2 E3.out.1; obtain ⟨⟨c10, c11, c12, c13, c14⟩, f10, f11, f12, f13, f14⟩ := blk5 E3.out.2.1))
  go_region_with (go_at_call 33; clear c00 c01 f00 f01 c10 c11 c12 c13 c14 f10 f11 f12 f13 f14; refine (HAN.out _ _ (R3.out.below ((Below.refl _ _).drew))).mono ?_; rintro e w4 ⟨v4, rfl, hr4, hb4⟩; have E4 := Lib.hid (EndsJ.below (W := w3.drew) E3.out.drew hb4); have R4 := Lib.hid hr4; have O4 := Lib.hid (owns_below (w := w3.drew) O3.out hb4); obtain ⟨l4, ⟨a4, c4, rfl, _⟩, _⟩ := hr4; clear hb4; obtain ⟨c00, c01, f00, f01⟩ := blk2 E4.out.1; obtain ⟨⟨c10, c11, c12, c13, c14⟩, f10, f11, f12, f13, f14⟩ := blk5 E4.out.2.1)
  go_wp2
  have EP := Lib.hid (E4.out.put (a2 := a4) (n2 := l4.length) (c2 := c4) (left2 := L4))
  obtain ⟨r0, r1, r2, r3, r4⟩ := last5 EP.out.2.1 (.slice a4 l4.length c4) (.int .i64 L4) (.string ⟨#[]⟩) (.bool false) (.bool false)
  refine bodyPost_ret (v := .tuple #[.agg #[.slice a4 l4.length c4, .int .i64 L4, .string ⟨#[]⟩, .bool false, .bool false], .slice (some ⟨w.heap.size + 1 + 1, 0, none⟩) 0 0, .int .i64 cc]) (by simp [results, Tryz.results9, go_sem, r0, r1, r2, r3, r4]) rfl ⟨_, _, rfl, EP.out.ref (R4.out.last E4.out.1) _ _ _ _ _, ⟨_, 0, rfl, .inl rfl⟩, EP.out.last _ _ _ _ _⟩
end Go.Proofs.YtpllcnpcplbobaaGreat
end
section
namespace Go.Proofs.YtpllcnpcplbobaaGreat
open Go.RowKit Go.Maps
set_option linter.unusedVariables false
attribute [local go_sem ↓] Go.wp_at_zero Go.wp_at_succ
theorem FilesAt.setJ {w : World} {v : Value} {l : List RF} {q i : Nat} {x0 x1 x3 x4 : Value} {s : ByteArray} {t : TypeId} (u : Value) (h : FilesAt w v l) (hq : w.heap[q]? = some (.cells #[x0, x1, .string s, x3, x4] t (0, 0))) (h0 : ∀ z, x0 ≠ .string z) (h1 : ∀ z, x1 ≠ .string z) (h3 : ∀ z, x3 ≠ .string z) (h4 : ∀ z, x4 ≠ .string z) :
    FilesAt (w.setCell ⟨q, i, none⟩ u) v l := by
  obtain ⟨a, c, hv, hl | ⟨b, o, ha, hc⟩⟩ := h
  · exact ⟨a, c, hv, .inl hl⟩
  · refine ⟨a, c, hv, ?_⟩
    by_cases hl : l.length = 0
    · exact .inl hl
    · have hb : b ≠ q := fun e => by
        have k0 := hc 0 (by omega) 0 (.string (l[0]'(by omega)).1) rfl
        have k1 := hc 0 (by omega) 1 (.string (l[0]'(by omega)).2.1) rfl
        rw [e, cell_of_row _ _ _ _ _ _ hq] at k0 k1
        match o, k0, k1 with
        | 0, k0, _ => exact h0 _ (Option.some.inj k0)
        | 1, k0, _ => exact h1 _ (Option.some.inj k0)
        | 2, _, k1 => exact h3 _ (Option.some.inj k1)
        | 3, k0, _ => exact h3 _ (Option.some.inj k0)
        | 4, k0, _ => exact h4 _ (Option.some.inj k0)
        | o + 5, k0, _ => cases k0
      exact .inr ⟨b, o, ha, fun j hj k x hx => (World.cell?_setCell_other _ _ _ _ (by intro e; injection e with e; exact hb e.symm)).trans (hc j hj k x hx)⟩
/-- The blocks that Add and Swap make for themselves: the journal, the result. -/
def EndsK (w W : World) (a : Option Addr) (n c : Nat) (left : Int) (name : ByteArray) (is br : Bool) : Prop :=
  W.heap[w.heap.size]? = some (.cells #[.slice a n c, .int .i64 left, .string name, .bool is, .bool br] 33 (0, 0)) ∧ W.heap[w.heap.size + 1]? = some (.cells #[.slice none 0 0, .int .i64 0, .string ⟨#[]⟩, .bool false, .bool false] 33 (0, 0)) ∧
  Below w.heap.size w W ∧ w.heap.size + 2 ≤ W.heap.size
theorem endsK_new (w : World) (a : Option Addr) (n c : Nat) (left : Int) (name : ByteArray) (is br : Bool) (W : World) (h : Below (w.heap.size + 2) ((w.alloc (.cells #[.slice a n c, .int .i64 left, .string name, .bool is, .bool br] 33)).alloc (.cells #[.slice none 0 0, .int .i64 0, .string ⟨#[]⟩, .bool false, .bool false] 33)) W) :
    EndsK w W a n c left name is br := by
  have e1 : (w.alloc (.cells #[.slice a n c, .int .i64 left, .string name, .bool is, .bool br] 33)).heap.size = w.heap.size + 1 := by simp
  refine ⟨(h.block _ (by omega)).trans ((heap_alloc_old _ _ (by omega)).trans (heap_alloc_new w _)), (h.block _ (by omega)).trans (by rw [← e1]; exact heap_alloc_new _ _), (((Below.refl _ _).alloc (Nat.le_refl _) _).alloc (by omega) _).trans (h.mono (by omega)), ?_⟩
  have := h.size
  simp at this
  omega
section
variable {w W W' : World} {a : Option Addr} {n c : Nat} {left : Int} {name : ByteArray} {is br : Bool}
theorem EndsK.below (h : EndsK w W a n c left name is br) (hb : Below W.heap.size W W') : EndsK w W' a n c left name is br := by
  obtain ⟨h0, h1, h2, h3⟩ := h
  exact ⟨(hb.block _ (by omega)).trans h0, (hb.block _ (by omega)).trans h1, h2.trans (hb.mono (by omega)), Nat.le_trans h3 hb.size⟩
theorem EndsK.drew (h : EndsK w W a n c left name is br) : EndsK w W.drew a n c left name is br := ⟨h.1, h.2.1, h.2.2.1.drew, h.2.2.2⟩
/-- The journal's disk written anew. -/
theorem EndsK.put {a2 : Option Addr} {n2 c2 : Nat} {left2 : Int} (h : EndsK w W a n c left name is br) : EndsK w ((W.setCell ⟨w.heap.size, 0, none⟩ (.slice a2 n2 c2)).setCell ⟨w.heap.size, 1, none⟩ (.int .i64 left2)) a2 n2 c2 left2 name is br := by
  obtain ⟨h0, h1, h2, h3⟩ := h
  have e0 := heap_setCell_same W w.heap.size 0 _ _ (.slice a2 n2 c2) h0
  have e1 := heap_setCell_same _ w.heap.size 1 _ _ (.int .i64 left2) e0
  refine ⟨e1, ?_, ?_, ?_⟩
  · exact (heap_setCell_other _ _ _ _ (by show w.heap.size + 1 ≠ w.heap.size; omega)).trans ((heap_setCell_other _ _ _ _ (by show w.heap.size + 1 ≠ w.heap.size; omega)).trans h1)
  · exact h2.trans (((Below.refl _ _).setCell (by show w.heap.size ≤ w.heap.size; omega) _).setCell (by show w.heap.size ≤ w.heap.size; omega) _)
  · simpa [World.setCell] using h3
/-- The mark written. -/
theorem EndsK.mark {br2 : Bool} (h : EndsK w W a n c left name is br) : EndsK w (W.setCell ⟨w.heap.size, 4, none⟩ (.bool br2)) a n c left name is br2 := by
  obtain ⟨h0, h1, h2, h3⟩ := h
  refine ⟨heap_setCell_same W w.heap.size 4 _ _ (.bool br2) h0, ?_, ?_, ?_⟩
  · exact (heap_setCell_other _ _ _ _ (by show w.heap.size + 1 ≠ w.heap.size; omega)).trans h1
  · exact h2.trans ((Below.refl _ _).setCell (by show w.heap.size ≤ w.heap.size; omega) _)
  · simpa [World.setCell] using h3
theorem EndsK.last (h : EndsK w W a n c left name is br) (u0 u1 u2 u3 u4 : Value) : Below w.heap.size w (set5 W (w.heap.size + 1) u0 u1 u2 u3 u4) :=
  h.2.2.1.trans ((((((Below.refl _ _).setCell (by show w.heap.size ≤ w.heap.size + 1; omega) _).setCell (by show w.heap.size ≤ w.heap.size + 1; omega) _).setCell (by show w.heap.size ≤ w.heap.size + 1; omega) _).setCell (by show w.heap.size ≤ w.heap.size + 1; omega) _).setCell (by show w.heap.size ≤ w.heap.size + 1; omega) _)
theorem EndsK.ref (h : EndsK w W a n c left name is br) {v : Value} {g : FS} {N : Nat} (hr : RefAt W v g N) (u0 u1 u2 u3 u4 : Value) : RefAt (set5 W (w.heap.size + 1) u0 u1 u2 u3 u4) v g N := by
  obtain ⟨l, h1, h2, h3⟩ := hr
  exact ⟨l, h1.set5 _ _ _ _ _ h.2.1 (fun _ e => by cases e) (fun _ e => by cases e) (fun _ e => by cases e) (fun _ e => by cases e), h2, h3⟩
theorem EndsK.ref1 (h : EndsK w W a n c left name is br) {v : Value} {g : FS} {N : Nat} (hr : RefAt W v g N) (i : Nat) (u : Value) : RefAt (W.setCell ⟨w.heap.size, i, none⟩ u) v g N := by
  obtain ⟨l, h1, h2, h3⟩ := hr
  exact ⟨l, h1.setJ _ h.1 (fun _ e => by cases e) (fun _ e => by cases e) (fun _ e => by cases e) (fun _ e => by cases e), h2, h3⟩
theorem EndsK.ref2 (h : EndsK w W a n c left name is br) {v : Value} {g : FS} {N : Nat} (hr : RefAt W v g N) (a2 : Option Addr) (n2 c2 : Nat) (left2 : Int) : RefAt ((W.setCell ⟨w.heap.size, 0, none⟩ (.slice a2 n2 c2)).setCell ⟨w.heap.size, 1, none⟩ (.int .i64 left2)) v g N := by
  have e0 := heap_setCell_same W w.heap.size 0 _ _ (.slice a2 n2 c2) h.1
  obtain ⟨l, h1, h2, h3⟩ := h.ref1 hr 0 (.slice a2 n2 c2)
  exact ⟨l, h1.setJ _ e0 (fun _ e => by cases e) (fun _ e => by cases e) (fun _ e => by cases e) (fun _ e => by cases e), h2, h3⟩
end
set_option maxRecDepth 100000 in
set_option maxHeartbeats 2000000 in
/-- ref08.Add of a journal that is none, or broken. -/
theorem radd_not (va : Value) (g : FS) (N : Nat) (left : Int) (name rec : ByteArray) (is br : Bool) (hib : (!is || br) = true) (w : World) (hA : RefAt w va g N) :
    Calls Tryz.prog 11 #[.agg #[va, .int .i64 left, .string name, .bool is, .bool br], .string rec] w fun e w' => e = .returned (.tuple #[.agg #[va, .int .i64 left, .string name, .bool is, .bool br], .int .i64 19]) ∧ Below w.heap.size w w' := by
  obtain ⟨l, ⟨a, c, rfl, _⟩, _, _⟩ := hA
  generalize l.length = n
  cases is with
  | false =>
    go_enter Tryz.func11, Tryz.ntmps11
    go_wp2
    refine bodyPost_ret (v := .tuple #[.agg #[.slice a n c, .int .i64 left, .string name, .bool false, .bool br], .int .i64 19]) (by simp [results, Tryz.results11, go_sem]) rfl ⟨rfl, ((Below.refl _ _).alloc (Nat.le_refl _) _).alloc (by simp) _⟩
  | true =>
    obtain rfl : br = true := by simpa using hib
    clear hib
    go_enter Tryz.func11, Tryz.ntmps11
    go_wp2
    refine bodyPost_ret (v := .tuple #[.agg #[.slice a n c, .int .i64 left, .string name, .bool true, .bool true], .int .i64 19]) (by simp [results, Tryz.results11, go_sem]) rfl ⟨rfl, ((Below.refl _ _).alloc (Nat.le_refl _) _).alloc (by simp) _⟩
set_option maxRecDepth 100000 in
set_option maxHeartbeats 2000000 in
/-- ref08.Add. -/
theorem radd_any (va : Value) (g : FS) (N : Nat) (hN : N ≤ 1099511627700) (left : Int) (h1 : -1 ≤ left) (h2 : left ≤ 9223372036854775807) (name rec : ByteArray) (hr : rec.size ≤ 1048576) (hsz : ((g name).getD noFile).1.size + (frameS rec).size ≤ 1099511627776) (w : World) (hA : RefAt w va g N) :
    Calls Tryz.prog 11 #[.agg #[va, .int .i64 left, .string name, .bool true, .bool false], .string rec] w fun e w' => ∃ v',
      (a0 g left name ≠ 0 → e = .returned (.tuple #[.agg #[v', .int .i64 (aL0 g left name), .string name, .bool true, .bool true], .int .i64 (a0 g left name)]) ∧ RefAt w' v' (aG0 g left name (frameS rec)) (N + 2)) ∧
      (a0 g left name = 0 → e = .returned (.tuple #[.agg #[v', .int .i64 (aL1 g left name (frameS rec)), .string name, .bool true, .bool (a1 g left name (frameS rec) != 0)], .int .i64 (a1 g left name (frameS rec))]) ∧ RefAt w' v' (aG1 g left name (frameS rec)) (N + 2)) ∧ Below w.heap.size w w' := by
  have hfr := fun W => rframe_any rec W
  rw [show rframeV rec = .tuple #[.string (frameS rec), .int .i64 0] from if_pos (by omega)] at hfr
  obtain ⟨f, hf⟩ : ∃ f, f = frameS rec := ⟨_, rfl⟩
  rw [← hf] at hsz hfr ⊢
  have hap : ∀ W, RefAt W va g N → Calls Tryz.prog 19 #[.agg #[va, .int .i64 left], .string name, .string f] W fun e w' => ∃ v', e = .returned (.tuple #[.agg #[v', .int .i64 (aL0 g left name)], .int .i64 (a0 g left name)]) ∧ RefAt w' v' (aG0 g left name f) (N + 1) ∧ Below W.heap.size W w' := fun W h => rappend_any va g N (by omega) left h1 h2 name f hsz W h
  have hsy : ∀ W v, RefAt W v (aG0 g left name f) (N + 1) → Calls Tryz.prog 38 #[.agg #[v, .int .i64 (aL0 g left name)], .string name] W fun e w' => ∃ v', e = .returned (.tuple #[.agg #[v', .int .i64 (aL1 g left name f)], .int .i64 (a1 g left name f)]) ∧ RefAt w' v' (aG1 g left name f) (N + 2) ∧ Below W.heap.size W w' := fun W v h => rsync_any v _ (N + 1) (by omega) _ (leftE_low h1) (leftE_high h2) name W h
  generalize aL1 g left name f = L1, aG1 g left name f = G1, a1 g left name f = k1 at hsy ⊢
  generalize aL0 g left name = L0, aG0 g left name f = G0, a0 g left name = k0 at hap hsy ⊢
  obtain ⟨l, ⟨a, c, rfl, _⟩, _, _⟩ := id hA
  obtain ⟨n, hnl⟩ : ∃ n, n = l.length := ⟨_, rfl⟩
  rw [← hnl] at hA hap ⊢
  have HA := Lib.hid hA
  have HAP := Lib.hid hap
  have HSY := Lib.hid hsy
  have HFR := Lib.hid hfr
  have HED := Lib.hid (endsK_new w a n c left name true false)
  clear hA hap hsy hfr hnl hf hsz
  by_cases hk0 : k0 = 0
  · subst hk0
    go_enter Tryz.func11, Tryz.ntmps11
    go_wp2_with (first | (go_at_call 37; refine (HFR.out _).mono ?_; rintro e w1 ⟨rfl, hb1⟩; have E1 := Lib.hid (HED.out w1 (hb1.mono (by simp))); have R1 := Lib.hid (HA.out.below ((((Below.refl _ _).alloc (Nat.le_refl _) _).alloc (by simp) _).trans (hb1.mono (by simp; omega)))); clear hb1; obtain ⟨⟨c00, c01, c02, c03, c04⟩, f00, f01, f02, f03, f04⟩ := blk5 E1.out.1; obtain ⟨⟨c10, c11, c12, c13, c14⟩, f10, f11, f12, f13, f14⟩ := blk5 E1.out.2.1) | (go_at_call 19; clear c00 c01 c02 c03 c04 f00 f01 f02 f03 f04 c10 c11 c12 c13 c14 f10 f11 f12 f13 f14; refine (HAP.out _ R1.out).mono ?_; rintro e w2 ⟨v2, rfl, hr2, hb2⟩; have E2 := Lib.hid (E1.out.below hb2); have R2 := Lib.hid hr2; obtain ⟨l2, ⟨a2, c2, rfl, _⟩, _⟩ := hr2; clear hb2; obtain ⟨⟨c00, c01, c02, c03, c04⟩, f00, f01, f02, f03, f04⟩ := blk5 E2.out.1; obtain ⟨⟨c10, c11, c12, c13, c14⟩, f10, f11, f12, f13, f14⟩ := blk5 E2.out.2.1) | (go_at_call 38; clear c00 c01 c02 c03 c04 f00 f01 f02 f03 f04 c10 c11 c12 c13 c14 f10 f11 f12 f13 f14; refine (HSY.out _ _ (E2.out.ref2 R2.out _ _ _ _)).mono ?_; rintro e w3 ⟨v3, rfl, hr3, hb3⟩; have E3 := Lib.hid ((E2.out.put (a2 := a2) (n2 := l2.length) (c2 := c2) (left2 := L0)).below hb3); have R3 := Lib.hid hr3; obtain ⟨l3, ⟨a3, c3, rfl, _⟩, _⟩ := hr3; clear hb3; obtain ⟨⟨c00, c01, c02, c03, c04⟩, f00, f01, f02, f03, f04⟩ := blk5 E3.out.1; obtain ⟨⟨c10, c11, c12, c13, c14⟩, f10, f11, f12, f13, f14⟩ := blk5 E3.out.2.1))
    have EM := Lib.hid (E3.out.put (a2 := a3) (n2 := l3.length) (c2 := c3) (left2 := L1))
    have EP := Lib.hid (EM.out.mark (br2 := k1 != 0))
    obtain ⟨r0, r1, r2, r3, r4⟩ := last5 EP.out.2.1 (.slice a3 l3.length c3) (.int .i64 L1) (.string name) (.bool true) (.bool (k1 != 0))
    have HF := EP.out.ref (EM.out.ref1 (E3.out.ref2 R3.out a3 l3.length c3 L1) 4 (.bool (k1 != 0))) (.slice a3 l3.length c3) (.int .i64 L1) (.string name) (.bool true) (.bool (k1 != 0))
    refine bodyPost_ret (v := .tuple #[.agg #[.slice a3 l3.length c3, .int .i64 L1, .string name, .bool true, .bool (k1 != 0)], .int .i64 k1]) (by simp [results, Tryz.results11, go_sem, r0, r1, r2, r3, r4]) rfl ⟨_, fun h => absurd rfl h, fun _ => ⟨rfl, HF⟩, EP.out.last _ _ _ _ _⟩
  · have hb0 : (k0 == 0) = false := by simpa using hk0
    have hb1 : (k0 != 0) = true := by simpa using hk0
    have HK := Lib.hid hk0
    clear hk0
    go_enter Tryz.func11, Tryz.ntmps11
    go_wp2_with (first | (go_at_call 37; refine (HFR.out _).mono ?_; rintro e w1 ⟨rfl, hb1⟩; have E1 := Lib.hid (HED.out w1 (hb1.mono (by simp))); have R1 := Lib.hid (HA.out.below ((((Below.refl _ _).alloc (Nat.le_refl _) _).alloc (by simp) _).trans (hb1.mono (by simp; omega)))); clear hb1; obtain ⟨⟨c00, c01, c02, c03, c04⟩, f00, f01, f02, f03, f04⟩ := blk5 E1.out.1; obtain ⟨⟨c10, c11, c12, c13, c14⟩, f10, f11, f12, f13, f14⟩ := blk5 E1.out.2.1) | (go_at_call 19; clear c00 c01 c02 c03 c04 f00 f01 f02 f03 f04 c10 c11 c12 c13 c14 f10 f11 f12 f13 f14; refine (HAP.out _ R1.out).mono ?_; rintro e w2 ⟨v2, rfl, hr2, hb2⟩; have E2 := Lib.hid (E1.out.below hb2); have R2 := Lib.hid hr2; obtain ⟨l2, ⟨a2, c2, rfl, _⟩, _⟩ := hr2; clear hb2; obtain ⟨⟨c00, c01, c02, c03, c04⟩, f00, f01, f02, f03, f04⟩ := blk5 E2.out.1; obtain ⟨⟨c10, c11, c12, c13, c14⟩, f10, f11, f12, f13, f14⟩ := blk5 E2.out.2.1))
    have EM := Lib.hid (E2.out.put (a2 := a2) (n2 := l2.length) (c2 := c2) (left2 := L0))
    have EP := Lib.hid (EM.out.mark (br2 := true))
    obtain ⟨r0, r1, r2, r3, r4⟩ := last5 EP.out.2.1 (.slice a2 l2.length c2) (.int .i64 L0) (.string name) (.bool true) (.bool (true))
    have HF := EP.out.ref (EM.out.ref1 (E2.out.ref2 R2.out a2 l2.length c2 L0) 4 (.bool (true))) (.slice a2 l2.length c2) (.int .i64 L0) (.string name) (.bool true) (.bool (true))
    refine bodyPost_ret (v := .tuple #[.agg #[.slice a2 l2.length c2, .int .i64 L0, .string name, .bool true, .bool (true)], .int .i64 k0]) (by simp [results, Tryz.results11, go_sem, r0, r1, r2, r3, r4]) rfl ⟨_, fun _ => ⟨rfl, HF.mono (by omega)⟩, fun h => absurd h HK.out, EP.out.last _ _ _ _ _⟩
end Go.Proofs.YtpllcnpcplbobaaGreat
end
