import Derived.Test.YtpllcnpcplbobaaGreatM24
import Derived.Test.YtpllcnpcplbobaaGreatM29
namespace Go.Proofs.YtpllcnpcplbobaaGreat
open Go.RowKit Go.Maps
set_option linter.unusedVariables false
attribute [local go_sem ↓] Go.wp_at_zero Go.wp_at_succ
set_option maxRecDepth 100000 in
set_option maxHeartbeats 2000000 in
/-- ref08.Swap of a journal that is none, or broken. -/
theorem rswap_not (va : Value) (g : FS) (N : Nat) (left : Int) (name : ByteArray) (vr : Value) (is br : Bool) (hib : (!is || br) = true) (w : World) (hA : RefAt w va g N) :
    Calls Tryz.prog 13 #[.agg #[va, .int .i64 left, .string name, .bool is, .bool br], vr] w fun e w' => e = .returned (.tuple #[.agg #[va, .int .i64 left, .string name, .bool is, .bool br], .int .i64 19]) ∧ Below w.heap.size w w' := by
  obtain ⟨l, ⟨a, c, rfl, _⟩, _, _⟩ := hA
  generalize l.length = n
  cases is with
  | false =>
    go_enter Tryz.func13, Tryz.ntmps13
    go_wp2
    refine bodyPost_ret (v := .tuple #[.agg #[.slice a n c, .int .i64 left, .string name, .bool false, .bool br], .int .i64 19]) (by simp [results, Tryz.results13, go_sem]) rfl ⟨rfl, ((Below.refl _ _).alloc (Nat.le_refl _) _).alloc (by simp) _⟩
  | true =>
    obtain rfl : br = true := by simpa using hib
    clear hib
    go_enter Tryz.func13, Tryz.ntmps13
    go_wp2
    refine bodyPost_ret (v := .tuple #[.agg #[.slice a n c, .int .i64 left, .string name, .bool true, .bool true], .int .i64 19]) (by simp [results, Tryz.results13, go_sem]) rfl ⟨rfl, ((Below.refl _ _).alloc (Nat.le_refl _) _).alloc (by simp) _⟩
set_option maxRecDepth 100000 in
set_option maxHeartbeats 2000000 in
/-- ref08.Swap. -/
theorem rswap_any (va : Value) (g : FS) (N : Nat) (hN : N ≤ 1099511627700) (left : Int) (h1 : -1 ≤ left) (h2 : left ≤ 9223372036854775807) (name : ByteArray) (hn : name.size ≤ 1099511627776) (vr : Value) (A : List ByteArray) (hA12 : A.length ≤ 12) (hA100 : ∀ x ∈ A, x.size ≤ 100) (hs2 : ((oG1 g left name (name ++ sufx)).getD noFile).1.size ≤ 1000000000) (w : World) (hA : RefAt w va g N) (hR : TextsAt w vr A) :
    Calls Tryz.prog 13 #[.agg #[va, .int .i64 left, .string name, .bool true, .bool false], vr] w fun e w' => ∃ v',
      (oT g left name ≠ 0 → e = .returned (.tuple #[.agg #[v', .int .i64 (oL1 g left name), .string name, .bool true, .bool true], .int .i64 (oT g left name)]) ∧ RefAt w' v' (oG1 g left name) (N + 3)) ∧
      (oT g left name = 0 → e = .returned (.tuple #[.agg #[v', .int .i64 (nL (oG1 g left name) (oL1 g left name) (name ++ sufx) (framesL A) name), .string name, .bool true, .bool (nCode (oG1 g left name) (oL1 g left name) (name ++ sufx) (framesL A) name != 0)], .int .i64 (nCode (oG1 g left name) (oL1 g left name) (name ++ sufx) (framesL A) name)]) ∧ RefAt w' v' (nG (oG1 g left name) (oL1 g left name) (name ++ sufx) (framesL A) name) (N + 3)) ∧ Below w.heap.size w w' := by
  have hfs := framesL_le A hA100
  have hfr := fun W h => rfr_any vr A hA12 hA100 W h
  obtain ⟨f, hf⟩ : ∃ f, f = framesL A := ⟨_, rfl⟩
  rw [← hf] at hfr hfs ⊢
  have hap : ∀ W, RefAt W va g N → Calls Tryz.prog 30 #[.agg #[va, .int .i64 left], .string name] W fun e w' => ∃ v', e = .returned (.tuple #[.agg #[v', .int .i64 (oL1 g left name)], .int .i64 (oT g left name)]) ∧ RefAt w' v' (oG1 g left name) N ∧ Below W.heap.size W w' := fun W h => rclear_any va g N (by omega) left h1 h2 name hn W h
  have hsy : ∀ W v, RefAt W v (oG1 g left name) N → Calls Tryz.prog 33 #[.agg #[v, .int .i64 (oL1 g left name)], .string name, .string f] W fun e w' => ∃ v', e = .returned (.tuple #[.agg #[v', .int .i64 (nL (oG1 g left name) (oL1 g left name) (name ++ sufx) f name)], .int .i64 (nCode (oG1 g left name) (oL1 g left name) (name ++ sufx) f name)]) ∧ RefAt w' v' (nG (oG1 g left name) (oL1 g left name) (name ++ sufx) f name) (N + 3) ∧ Below W.heap.size W w' := fun W v h => ranew_any v _ N hN _ (tidyL_low h1) (tidyL_high h2) name f hn (by omega) W h
  generalize nL (oG1 g left name) (oL1 g left name) (name ++ sufx) f name = L1, nG (oG1 g left name) (oL1 g left name) (name ++ sufx) f name = G1, nCode (oG1 g left name) (oL1 g left name) (name ++ sufx) f name = k1 at hsy ⊢
  generalize oL1 g left name = L0, oG1 g left name = G0, oT g left name = k0 at hap hsy ⊢
  obtain ⟨l, ⟨a, c, rfl, _⟩, _, _⟩ := id hA
  obtain ⟨n, hnl⟩ : ∃ n, n = l.length := ⟨_, rfl⟩
  rw [← hnl] at hA hap ⊢
  have HA := Lib.hid hA
  have HAP := Lib.hid hap
  have HSY := Lib.hid hsy
  have HFR := Lib.hid hfr
  have HED := Lib.hid (endsK_new w a n c left name true false)
  have HTR := Lib.hid hR
  clear hA hap hsy hfr hnl hf hs2 hR hfs hA100
  by_cases hk0 : k0 = 0
  · subst hk0
    go_enter Tryz.func13, Tryz.ntmps13
    go_wp2_with (first | (go_at_call 41; refine (HFR.out _ (HTR.out.below (((Below.refl _ _).alloc (Nat.le_refl _) _).alloc (by simp) _))).mono ?_; rintro e w1 ⟨rfl, hb1⟩; have E1 := Lib.hid (HED.out w1 (hb1.mono (by simp))); have R1 := Lib.hid (HA.out.below ((((Below.refl _ _).alloc (Nat.le_refl _) _).alloc (by simp) _).trans (hb1.mono (by simp; omega)))); clear hb1; obtain ⟨⟨c00, c01, c02, c03, c04⟩, f00, f01, f02, f03, f04⟩ := blk5 E1.out.1; obtain ⟨⟨c10, c11, c12, c13, c14⟩, f10, f11, f12, f13, f14⟩ := blk5 E1.out.2.1) | (go_at_call 30; clear c00 c01 c02 c03 c04 f00 f01 f02 f03 f04 c10 c11 c12 c13 c14 f10 f11 f12 f13 f14; refine (HAP.out _ R1.out).mono ?_; rintro e w2 ⟨v2, rfl, hr2, hb2⟩; have E2 := Lib.hid (E1.out.below hb2); have R2 := Lib.hid hr2; obtain ⟨l2, ⟨a2, c2, rfl, _⟩, _⟩ := hr2; clear hb2; obtain ⟨⟨c00, c01, c02, c03, c04⟩, f00, f01, f02, f03, f04⟩ := blk5 E2.out.1; obtain ⟨⟨c10, c11, c12, c13, c14⟩, f10, f11, f12, f13, f14⟩ := blk5 E2.out.2.1) | (go_at_call 33; clear c00 c01 c02 c03 c04 f00 f01 f02 f03 f04 c10 c11 c12 c13 c14 f10 f11 f12 f13 f14; refine (HSY.out _ _ (E2.out.ref2 R2.out _ _ _ _)).mono ?_; rintro e w3 ⟨v3, rfl, hr3, hb3⟩; have E3 := Lib.hid ((E2.out.put (a2 := a2) (n2 := l2.length) (c2 := c2) (left2 := L0)).below hb3); have R3 := Lib.hid hr3; obtain ⟨l3, ⟨a3, c3, rfl, _⟩, _⟩ := hr3; clear hb3; obtain ⟨⟨c00, c01, c02, c03, c04⟩, f00, f01, f02, f03, f04⟩ := blk5 E3.out.1; obtain ⟨⟨c10, c11, c12, c13, c14⟩, f10, f11, f12, f13, f14⟩ := blk5 E3.out.2.1))
    have EM := Lib.hid (E3.out.put (a2 := a3) (n2 := l3.length) (c2 := c3) (left2 := L1))
    have EP := Lib.hid (EM.out.mark (br2 := k1 != 0))
    obtain ⟨r0, r1, r2, r3, r4⟩ := last5 EP.out.2.1 (.slice a3 l3.length c3) (.int .i64 L1) (.string name) (.bool true) (.bool (k1 != 0))
    have HF := EP.out.ref (EM.out.ref1 (E3.out.ref2 R3.out a3 l3.length c3 L1) 4 (.bool (k1 != 0))) (.slice a3 l3.length c3) (.int .i64 L1) (.string name) (.bool true) (.bool (k1 != 0))
    refine bodyPost_ret (v := .tuple #[.agg #[.slice a3 l3.length c3, .int .i64 L1, .string name, .bool true, .bool (k1 != 0)], .int .i64 k1]) (by simp [results, Tryz.results13, go_sem, r0, r1, r2, r3, r4]) rfl ⟨_, fun h => absurd rfl h, fun _ => ⟨rfl, HF⟩, EP.out.last _ _ _ _ _⟩
  · have hb0 : (k0 == 0) = false := by simpa using hk0
    have hb1 : (k0 != 0) = true := by simpa using hk0
    have HK := Lib.hid hk0
    clear hk0
    go_enter Tryz.func13, Tryz.ntmps13
    go_wp2_with (first | (go_at_call 41; refine (HFR.out _ (HTR.out.below (((Below.refl _ _).alloc (Nat.le_refl _) _).alloc (by simp) _))).mono ?_; rintro e w1 ⟨rfl, hb1⟩; have E1 := Lib.hid (HED.out w1 (hb1.mono (by simp))); have R1 := Lib.hid (HA.out.below ((((Below.refl _ _).alloc (Nat.le_refl _) _).alloc (by simp) _).trans (hb1.mono (by simp; omega)))); clear hb1; obtain ⟨⟨c00, c01, c02, c03, c04⟩, f00, f01, f02, f03, f04⟩ := blk5 E1.out.1; obtain ⟨⟨c10, c11, c12, c13, c14⟩, f10, f11, f12, f13, f14⟩ := blk5 E1.out.2.1) | (go_at_call 30; clear c00 c01 c02 c03 c04 f00 f01 f02 f03 f04 c10 c11 c12 c13 c14 f10 f11 f12 f13 f14; refine (HAP.out _ R1.out).mono ?_; rintro e w2 ⟨v2, rfl, hr2, hb2⟩; have E2 := Lib.hid (E1.out.below hb2); have R2 := Lib.hid hr2; obtain ⟨l2, ⟨a2, c2, rfl, _⟩, _⟩ := hr2; clear hb2; obtain ⟨⟨c00, c01, c02, c03, c04⟩, f00, f01, f02, f03, f04⟩ := blk5 E2.out.1; obtain ⟨⟨c10, c11, c12, c13, c14⟩, f10, f11, f12, f13, f14⟩ := blk5 E2.out.2.1))
    have EM := Lib.hid (E2.out.put (a2 := a2) (n2 := l2.length) (c2 := c2) (left2 := L0))
    have EP := Lib.hid (EM.out.mark (br2 := true))
    obtain ⟨r0, r1, r2, r3, r4⟩ := last5 EP.out.2.1 (.slice a2 l2.length c2) (.int .i64 L0) (.string name) (.bool true) (.bool (true))
    have HF := EP.out.ref (EM.out.ref1 (E2.out.ref2 R2.out a2 l2.length c2 L0) 4 (.bool (true))) (.slice a2 l2.length c2) (.int .i64 L0) (.string name) (.bool true) (.bool (true))
    refine bodyPost_ret (v := .tuple #[.agg #[.slice a2 l2.length c2, .int .i64 L0, .string name, .bool true, .bool (true)], .int .i64 k0]) (by simp [results, Tryz.results13, go_sem, r0, r1, r2, r3, r4]) rfl ⟨_, fun _ => ⟨rfl, HF.mono (by omega)⟩, fun h => absurd h HK.out, EP.out.last _ _ _ _ _⟩
end Go.Proofs.YtpllcnpcplbobaaGreat
