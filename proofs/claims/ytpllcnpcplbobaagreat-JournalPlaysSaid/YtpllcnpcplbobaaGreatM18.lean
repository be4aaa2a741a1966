import Derived.Test.YtpllcnpcplbobaaGreatM17
import Derived.Test.YtpllcnpcplbobaaGreatM16
namespace Go.Proofs.YtpllcnpcplbobaaGreat
open Go.RowKit Go.Maps
set_option linter.unusedVariables false
attribute [local go_sem ↓] Go.wp_at_zero Go.wp_at_succ
/-- The disk's block written anew. -/
theorem EndsD.put {w W : World} {a a2 : Option Addr} {n c n2 c2 : Nat} {left left2 : Int} (h : EndsD w W a n c left) : EndsD w ((W.setCell ⟨w.heap.size, 0, none⟩ (.slice a2 n2 c2)).setCell ⟨w.heap.size, 1, none⟩ (.int .i64 left2)) a2 n2 c2 left2 := by
  obtain ⟨h0, h1, h2, h3⟩ := h
  have e0 := heap_setCell_same W w.heap.size 0 _ _ (.slice a2 n2 c2) h0
  have e1 := heap_setCell_same _ w.heap.size 1 _ _ (.int .i64 left2) e0
  refine ⟨e1, ?_, ?_, ?_⟩
  · exact (heap_setCell_other _ _ _ _ (by show w.heap.size + 1 ≠ w.heap.size; omega)).trans ((heap_setCell_other _ _ _ _ (by show w.heap.size + 1 ≠ w.heap.size; omega)).trans h1)
  · exact h2.trans (((Below.refl _ _).setCell (by show w.heap.size ≤ w.heap.size; omega) _).setCell (by show w.heap.size ≤ w.heap.size; omega) _)
  · simpa [World.setCell] using h3
theorem EndsD.froz {w W : World} {a : Option Addr} {n c : Nat} {left : Int} (h : EndsD w W a n c left) : W.frozen? ⟨w.heap.size, 0, none⟩ = false ∧ W.frozen? ⟨w.heap.size, 1, none⟩ = false :=
  ⟨(blk2 h.1).2.2.1, (blk2 h.1).2.2.2⟩
set_option maxRecDepth 100000 in
set_option maxHeartbeats 1000000 in
theorem ranew_any (va : Value) (g : FS) (N : Nat) (hN : N ≤ 1099511627700) (left : Int) (h1 : -1 ≤ left) (h2 : left ≤ 9223372036854775807) (name data : ByteArray) (hn : name.size ≤ 1099511627776) (hsz : ((g (name ++ sufx)).getD noFile).1.size + data.size ≤ 1099511627776) (w : World) (hA : RefAt w va g N) :
    Calls Tryz.prog 33 #[.agg #[va, .int .i64 left], .string name, .string data] w fun e w' => ∃ v', e = .returned (.tuple #[.agg #[v', .int .i64 (nL g left (name ++ sufx) data name)], .int .i64 (nCode g left (name ++ sufx) data name)]) ∧
      RefAt w' v' (nG g left (name ++ sufx) data name) (N + 3) ∧ Below w.heap.size w w' := by
  obtain ⟨o, ho⟩ : ∃ o, o = name ++ sufx := ⟨_, rfl⟩
  rw [← ho] at hsz ⊢
  have hl0 : -1 ≤ nL0 g left o := leftE_low h1
  have hl0' : nL0 g left o ≤ 9223372036854775807 := leftE_high h2
  have hl1 : -1 ≤ nL1 g left o data := leftE_low hl0
  have hl1' : nL1 g left o data ≤ 9223372036854775807 := leftE_high hl0'
  have hap : ∀ W, RefAt W va g N → Calls Tryz.prog 19 #[.agg #[va, .int .i64 left], .string o, .string data] W fun e w' => ∃ v', e = .returned (.tuple #[.agg #[v', .int .i64 (nL0 g left o)], .int .i64 (n0 g left o)]) ∧ RefAt w' v' (nG0 g left o data) (N + 1) ∧ Below W.heap.size W w' := fun W h => rappend_any va g N (by omega) left h1 h2 o data hsz W h
  have hsy : ∀ W v, RefAt W v (nG0 g left o data) (N + 1) → Calls Tryz.prog 38 #[.agg #[v, .int .i64 (nL0 g left o)], .string o] W fun e w' => ∃ v', e = .returned (.tuple #[.agg #[v', .int .i64 (nL1 g left o data)], .int .i64 (n1 g left o data)]) ∧ RefAt w' v' (nG1 g left o data) (N + 2) ∧ Below W.heap.size W w' := fun W v h => rsync_any v _ (N + 1) (by omega) _ hl0 hl0' o W h
  have hre : ∀ W v, RefAt W v (nG1 g left o data) (N + 2) → Calls Tryz.prog 58 #[.agg #[v, .int .i64 (nL1 g left o data)], .string o, .string name] W fun e w' => ∃ v', e = .returned (.tuple #[.agg #[v', .int .i64 (nL2 g left o data name)], .int .i64 (n2 g left o data name)]) ∧ RefAt w' v' (nG2 g left o data name) (N + 3) ∧ Below W.heap.size W w' := fun W v h => rrename_any v _ (N + 2) (by omega) _ hl1 hl1' o name W h
  have hcase : (n0 g left o ≠ 0 ∧ nCode g left o data name = n0 g left o ∧ nG g left o data name = nG0 g left o data ∧ nL g left o data name = nL0 g left o) ∨
      (n0 g left o = 0 ∧ n1 g left o data ≠ 0 ∧ nCode g left o data name = n1 g left o data ∧ nG g left o data name = nG1 g left o data ∧ nL g left o data name = nL1 g left o data) ∨
      (n0 g left o = 0 ∧ n1 g left o data = 0 ∧ nCode g left o data name = n2 g left o data name ∧ nG g left o data name = nG2 g left o data name ∧ nL g left o data name = nL2 g left o data name) := by
    by_cases h0 : n0 g left o = 0
    · by_cases h1 : n1 g left o data = 0
      · exact .inr (.inr ⟨h0, h1, (if_neg (fun h => h h0)).trans (if_neg (fun h => h h1)), (if_neg (fun h => h h0)).trans (if_neg (fun h => h h1)), (if_neg (fun h => h h0)).trans (if_neg (fun h => h h1))⟩)
      · exact .inr (.inl ⟨h0, h1, (if_neg (fun h => h h0)).trans (if_pos h1), (if_neg (fun h => h h0)).trans (if_pos h1), (if_neg (fun h => h h0)).trans (if_pos h1)⟩)
    · exact .inl ⟨h0, if_pos h0, if_pos h0, if_pos h0⟩
  generalize nL2 g left o data name = L2, nG2 g left o data name = G2, n2 g left o data name = k2 at hre hcase
  generalize nL1 g left o data = L1, nG1 g left o data = G1, n1 g left o data = k1 at hre hsy hcase
  generalize nL0 g left o = L0, nG0 g left o data = G0, n0 g left o = k0 at hsy hap hcase
  obtain ⟨l, ⟨a, c, rfl, _⟩, _, _⟩ := id hA
  obtain ⟨n, hnl⟩ : ∃ n, n = l.length := ⟨_, rfl⟩
  rw [← hnl] at hA hap ⊢
  unfold sufx at ho
  subst ho
  have hcc := fun W => run_sufx name hn W
  have HA := Lib.hid hA
  have HAP := Lib.hid hap
  have HSY := Lib.hid hsy
  have HRE := Lib.hid hre
  have HED := Lib.hid (endsD_new w a n c left)
  clear hA hap hsy hre hnl hl0 hl0' hl1 hl1' hsz
  rcases hcase with ⟨h0, e1, e2, e3⟩ | ⟨rfl, hk1, e1, e2, e3⟩ | ⟨rfl, rfl, e1, e2, e3⟩
  · rw [e1, e2, e3]
    have hb0 : (k0 != 0) = true := by simpa using h0
    clear h0 e1 e2 e3
    go_enter Tryz.func33, Tryz.ntmps33
    go_wp2_with (go_at_call 19; refine (HAP.out _ (HA.out.below (((Below.refl _ _).alloc (Nat.le_refl _) _).alloc (by simp) _))).mono ?_; rintro e w1 ⟨v1, rfl, hr1, hb1⟩; have E1 := Lib.hid (HED.out w1 (hb1.mono (by simp))); have R1 := Lib.hid hr1; obtain ⟨l1, ⟨a1, c1, rfl, _⟩, _⟩ := hr1; clear hb1; obtain ⟨c00, c01, c10, c11, f10, f11⟩ := E1.out.cells; obtain ⟨f00, f01⟩ := E1.out.froz)
    have EP := Lib.hid (E1.out.put (a2 := a1) (n2 := l1.length) (c2 := c1) (left2 := L0))
    obtain ⟨r0, r1, r2⟩ := last_cells EP.out.2.1 (.slice a1 l1.length c1) (.int .i64 L0)
    refine bodyPost_ret (v := .tuple #[.agg #[.slice a1 l1.length c1, .int .i64 L0], .int .i64 k0]) (by simp [results, Tryz.results33, go_sem, r1, r2]) rfl ⟨_, rfl, ?_, EP.out.last _ _⟩
    exact RefAt.mono ((R1.out.last E1.out.1).last EP.out.2.1) (by omega)
  · rw [e1, e2, e3]
    have hb1 : (k1 != 0) = true := by simpa using hk1
    clear hk1 e1 e2 e3
    go_enter Tryz.func33, Tryz.ntmps33
    go_wp2_with (first | (go_at_call 19; refine (HAP.out _ (HA.out.below (((Below.refl _ _).alloc (Nat.le_refl _) _).alloc (by simp) _))).mono ?_; rintro e w1 ⟨v1, rfl, hr1, hb1⟩; have E1 := Lib.hid (HED.out w1 (hb1.mono (by simp))); have R1 := Lib.hid hr1; obtain ⟨l1, ⟨a1, c1, rfl, _⟩, _⟩ := hr1; clear hb1; obtain ⟨c00, c01, c10, c11, f10, f11⟩ := E1.out.cells; obtain ⟨f00, f01⟩ := E1.out.froz) | (go_at_call 38; clear c00 c01 c10 c11 f10 f11 f00 f01; refine (HSY.out _ _ (R1.out.last E1.out.1)).mono ?_; rintro e w2 ⟨v2, rfl, hr2, hb2⟩; have E2 := Lib.hid ((E1.out.put (a2 := a1) (n2 := l1.length) (c2 := c1) (left2 := L0)).below hb2); have R2 := Lib.hid hr2; obtain ⟨l2, ⟨a2, c2, rfl, _⟩, _⟩ := hr2; clear hb2; obtain ⟨c00, c01, c10, c11, f10, f11⟩ := E2.out.cells; obtain ⟨f00, f01⟩ := E2.out.froz))
    have EP := Lib.hid (E2.out.put (a2 := a2) (n2 := l2.length) (c2 := c2) (left2 := L1))
    obtain ⟨r0, r1, r2⟩ := last_cells EP.out.2.1 (.slice a2 l2.length c2) (.int .i64 L1)
    refine bodyPost_ret (v := .tuple #[.agg #[.slice a2 l2.length c2, .int .i64 L1], .int .i64 k1]) (by simp [results, Tryz.results33, go_sem, r1, r2]) rfl ⟨_, rfl, ?_, EP.out.last _ _⟩
    exact RefAt.mono ((R2.out.last E2.out.1).last EP.out.2.1) (by omega)
  · rw [e1, e2, e3]
    clear e1 e2 e3
    go_enter Tryz.func33, Tryz.ntmps33
    go_wp2_with (first | (go_at_call 19; refine (HAP.out _ (HA.out.below (((Below.refl _ _).alloc (Nat.le_refl _) _).alloc (by simp) _))).mono ?_; rintro e w1 ⟨v1, rfl, hr1, hb1⟩; have E1 := Lib.hid (HED.out w1 (hb1.mono (by simp))); have R1 := Lib.hid hr1; obtain ⟨l1, ⟨a1, c1, rfl, _⟩, _⟩ := hr1; clear hb1; obtain ⟨c00, c01, c10, c11, f10, f11⟩ := E1.out.cells; obtain ⟨f00, f01⟩ := E1.out.froz) | (go_at_call 38; clear c00 c01 c10 c11 f10 f11 f00 f01; refine (HSY.out _ _ (R1.out.last E1.out.1)).mono ?_; rintro e w2 ⟨v2, rfl, hr2, hb2⟩; have E2 := Lib.hid ((E1.out.put (a2 := a1) (n2 := l1.length) (c2 := c1) (left2 := L0)).below hb2); have R2 := Lib.hid hr2; obtain ⟨l2, ⟨a2, c2, rfl, _⟩, _⟩ := hr2; clear hb2; obtain ⟨c00, c01, c10, c11, f10, f11⟩ := E2.out.cells; obtain ⟨f00, f01⟩ := E2.out.froz) | (go_at_call 58; clear c00 c01 c10 c11 f10 f11 f00 f01; refine (HRE.out _ _ (R2.out.last E2.out.1)).mono ?_; rintro e w3 ⟨v3, rfl, hr3, hb3⟩; have E3 := Lib.hid ((E2.out.put (a2 := a2) (n2 := l2.length) (c2 := c2) (left2 := L1)).below hb3); have R3 := Lib.hid hr3; obtain ⟨l3, ⟨a3, c3, rfl, _⟩, _⟩ := hr3; clear hb3; obtain ⟨c00, c01, c10, c11, f10, f11⟩ := E3.out.cells; obtain ⟨f00, f01⟩ := E3.out.froz))
    obtain ⟨r0, r1, r2⟩ := last_cells E3.out.2.1 (.slice a3 l3.length c3) (.int .i64 L2)
    refine bodyPost_ret (v := .tuple #[.agg #[.slice a3 l3.length c3, .int .i64 L2], .int .i64 k2]) (by simp [results, Tryz.results33, go_sem, r1, r2]) rfl ⟨_, rfl, R3.out.last E3.out.2.1, E3.out.last _ _⟩
end Go.Proofs.YtpllcnpcplbobaaGreat
