import Derived.Test.YtpllcnpcplbobaaRf8
namespace Go.Proofs.Ytpllcnpcplbobaa
open Go.RowKit Go.Maps
theorem rename_lists (g : FS) (x y : ByteArray) (f : ByteArray × Int) (hg : g x = some f) : renameG 0 g x y = (g.del x).put y f := by
  rw [renameG, hg]
  by_cases hxy : x = y
  · subst hxy
    rw [if_neg (fun h => h.2 rfl)]
    funext z
    unfold FS.put FS.del
    by_cases hz : z = x
    · subst hz; simp [hg]
    · simp [hz]
  · rw [if_pos ⟨rfl, hxy⟩]
    funext z
    unfold FS.put FS.del
    by_cases hz : z = x
    · subst hz; simp [hxy]
    · simp [hz]
attribute [local go_sem ↓] Go.wp_at_zero Go.wp_at_succ
set_option maxRecDepth 100000 in
set_option maxHeartbeats 2000000 in
theorem rrename_any (va : Value) (g : FS) (N : Nat) (hN : N ≤ 1099511627775) (left : Int) (h1 : -1 ≤ left) (h2 : left ≤ 9223372036854775807) (name to_ : ByteArray) (w : World) (hA : RefAt w va g N) :
    Calls Try.prog 50 #[.agg #[va, .int .i64 left], .string name, .string to_] w fun e w' => ∃ v', e = .returned (.tuple #[.agg #[v', .int .i64 (leftE (beginE true g left name [name, to_]) left)], .int .i64 (beginE true g left name [name, to_])]) ∧
      RefAt w' v' (renameG (beginE true g left name [name, to_]) g name to_) (N + 1) ∧ Below w.heap.size w w' := by
  obtain ⟨l, hF, hL, hn⟩ := hA
  have hF2 := hF
  obtain ⟨a, c, rfl, ha⟩ := hF
  have HF := Lib.hid hF2
  have HL := Lib.hid hL
  obtain ⟨n, hnl⟩ : ∃ n, n = l.length := ⟨_, rfl⟩
  rw [← hnl] at hn HF ⊢
  have HNL := Lib.hid hnl
  have HA := Lib.hid ha
  clear hF2 hL ha hnl
  by_cases hne0 : name = ⟨#[]⟩ ∨ to_ = ⟨#[]⟩
  · have hc : beginE true g left name [name, to_] = 1 := by
      have : memB ⟨#[]⟩ [name, to_] = true := memB_iff.2 (by rcases hne0 with h | h <;> simp [h])
      rw [beginE, this]; rfl
    rw [hc]
    clear hc
    have hfin : ∀ W : World, Below w.heap.size w W → RefAt W (.slice a n c) (renameG 1 g name to_) (N + 1) := fun W hb => ⟨l, HF.out.below hb, by rw [renameG, if_neg (fun h => absurd h.1 (by decide))]; exact HL.out, by rw [← HNL.out]; omega⟩
    have HFIN := Lib.hid hfin
    clear hfin
    by_cases hne : name = ⟨#[]⟩
    · subst hne
      clear hne0
      go_enter Try.func50, Try.ntmps50
      go_wp2
      refine bodyPost_ret (v := .tuple #[.agg #[.slice a n c, .int .i64 left], .int .i64 1]) (by simp [results, Try.results50, go_sem]) rfl ⟨_, rfl, HFIN.out _ ?_, ?_⟩
      · exact (((Below.refl _ _).alloc (Nat.le_refl _) _).alloc (by simp) _)
      · exact (((Below.refl _ _).alloc (Nat.le_refl _) _).alloc (by simp) _)
    · have hto : to_ = ⟨#[]⟩ := hne0.resolve_left hne
      subst hto
      have hnb := toList_isEmpty hne
      clear hne0 hne
      go_enter Try.func50, Try.ntmps50
      go_wp2
      refine bodyPost_ret (v := .tuple #[.agg #[.slice a n c, .int .i64 left], .int .i64 1]) (by simp [results, Try.results50, go_sem]) rfl ⟨_, rfl, HFIN.out _ ?_, ?_⟩
      · exact (((Below.refl _ _).alloc (Nat.le_refl _) _).alloc (by simp) _)
      · exact (((Below.refl _ _).alloc (Nat.le_refl _) _).alloc (by simp) _)
  · have hne : name ≠ ⟨#[]⟩ := fun h => hne0 (.inl h)
    have hnt : to_ ≠ ⟨#[]⟩ := fun h => hne0 (.inr h)
    have hnb := toList_isEmpty hne
    have hnb2 := toList_isEmpty hnt
    have hmem : memB ⟨#[]⟩ [name, to_] = false := by
      cases hm : memB ⟨#[]⟩ [name, to_] with
      | false => rfl
      | true =>
        have := memB_iff.1 hm
        simp only [List.mem_cons, List.not_mem_nil, or_false] at this
        rcases this with h | h
        · exact absurd h.symm hne
        · exact absurd h.symm hnt
    have HMEM := Lib.hid hmem
    have HED := Lib.hid (endsD_new w a n c left)
    clear hmem hne hnt hne0
    cases hg : g name with
    | none =>
      have hc : beginE true g left name [name, to_] = 10 := by rw [beginE, HMEM.out, isB, hg]; rfl
      rw [hc]
      have hat := fun W h => rat_none HL.out (by rw [← HNL.out]; omega) hg (.slice a n c) left W h
      have HAT := Lib.hid hat
      clear hat hg hc
      go_enter Try.func50, Try.ntmps50
      go_wp2_with (go_at_call 54; refine (HAT.out _ (HF.out.below (((Below.refl _ _).alloc (Nat.le_refl _) _).alloc (by simp) _))).mono ?_; rintro e w1 ⟨rfl, hb1⟩; have E1 := Lib.hid (HED.out w1 (hb1.mono (by simp))); clear hb1; obtain ⟨c00, c01, c10, c11, f10, f11⟩ := E1.out.cells)
      obtain ⟨r0, r1, r2⟩ := last_cells E1.out.2.1 (.slice a n c) (.int .i64 left)
      refine bodyPost_ret (v := .tuple #[.agg #[.slice a n c, .int .i64 left], .int .i64 10]) (by simp [results, Try.results50, go_sem, r1, r2]) rfl ⟨_, rfl, ⟨l, HF.out.below (E1.out.last _ _), by rw [renameG, if_neg (fun h => absurd h.1 (by decide))]; exact HL.out, by rw [← HNL.out]; omega⟩, E1.out.last _ _⟩
    | some v =>
      obtain ⟨vd, vs⟩ := v
      have hib : isB g name = true := by rw [isB, hg]; rfl
      obtain ⟨k, hk, hlk, hat⟩ := rat_some HL.out (by rw [← HNL.out]; omega) hg
      have hat := fun W h => hat (.slice a n c) left W h
      have HIB := Lib.hid hib
      have hkn : k < n := by rw [HNL.out]; exact hk
      rcases HA.out with h0 | ⟨b1, o1, rfl, hc1⟩
      · rw [← HNL.out] at h0; omega
      have hc := hc1 k hk
      rw [hlk] at hc
      have d0 := hc 0 _ rfl
      have d1 := hc 1 _ rfl
      have d2 := hc 2 _ rfl
      simp only [Nat.add_zero] at d0 d1 d2
      have D0 := Lib.hid d0
      have D1 := Lib.hid d1
      have D2 := Lib.hid d2
      have HAT := Lib.hid hat
      have HG := Lib.hid hg
      clear hat hg hc1 hc d0 d1 d2 hlk hk HA hib
      by_cases hz : left = 0
      · subst hz
        have hc : beginE true g 0 name [name, to_] = 18 := by rw [beginE, HMEM.out, HIB.out]; rfl
        rw [hc]
        clear hc
        go_enter Try.func50, Try.ntmps50
        go_upto_region 8 with (go_at_call 54; refine (HAT.out _ (HF.out.below (((Below.refl _ _).alloc (Nat.le_refl _) _).alloc (by simp) _))).mono ?_; rintro e w1 ⟨rfl, hb1⟩; have E1 := Lib.hid (HED.out w1 (hb1.mono (by simp))); clear hb1; obtain ⟨c00, c01, c10, c11, f10, f11⟩ := E1.out.cells; have d0 := (E1.out.2.2.1.cell (World.block_lt_of_cell? w _ D0.out)).trans D0.out; have d1 := (E1.out.2.2.1.cell (World.block_lt_of_cell? w _ D1.out)).trans D1.out; have d2 := (E1.out.2.2.1.cell (World.block_lt_of_cell? w _ D2.out)).trans D2.out)
        have EQ := Lib.hid (E1.out.file (to_, vd, vs))
        go_region_held3 (fun W => Cells5Q w W w1.heap.size (some ⟨b1, o1, none⟩) n c 0 (to_, vd, vs)) (first | exact EQ.out.five | exact E5.out.five | exact E2.out.five | exact E3.out.five | exact (E3.out.five.set E1.out.2.2.2 _ _).set E1.out.2.2.2 _ _) ((first
          | (go_at_call 71; refine (rwithout_any (.slice (some ⟨b1, o1, none⟩) n c) l (by rw [← HNL.out]; omega) 0 name _ (HF.out.below EQ.out.toD.drew.2.2.1)).mono ?_; rintro e w5 ⟨v5, rfl, ho5, hb5⟩; have E5 := Lib.hid (EQ.out.drew.below hb5); have O5 := Lib.hid (filesAt_owned ho5); obtain ⟨a5, c5, rfl, _⟩ := filesAt_owned ho5; clear ho5 hb5)
          | (go_at_call 70; refine (rwith_any (.slice a5 _ c5) (withoutL l name) (by have := withoutL_length l name; rw [← HNL.out] at this; omega) 0 to_ vd vs _ O5.out).mono ?_; rintro e w2 ⟨v2, rfl, ho2, hb2⟩; have E2 := Lib.hid (E5.out.below hb2); have O2 := Lib.hid ho2; obtain ⟨a2, c2, rfl, _⟩ := filesAt_owned ho2; clear ho2 hb2)
          | (go_at_call 69; refine (rpass0 (some ⟨b1, o1, none⟩) a2 n c _ c2 _).mono ?_; rintro e w3 ⟨rfl, hb3⟩; have E3 := Lib.hid (E2.out.below hb3); have B3 := Lib.hid hb3; clear hb3; obtain ⟨_, _, z10, z11, y10, y11⟩ := E3.out.toD.cells)))
        go_wp2
        obtain ⟨r0, r1, r2⟩ := last_cells E3.out.2.1 (.slice (some ⟨b1, o1, none⟩) n c) (.int .i64 0)
        refine bodyPost_ret (v := .tuple #[.agg #[.slice (some ⟨b1, o1, none⟩) n c, .int .i64 0], .int .i64 18]) (by simp [results, Try.results50, go_sem, r1, r2]) rfl ⟨_, rfl, ⟨l, HF.out.below (E3.out.toD.last _ _), by rw [renameG, if_neg (fun h => absurd h.1 (by decide))]; exact HL.out, by rw [← HNL.out]; omega⟩, E3.out.toD.last _ _⟩
      · have hc : beginE true g left name [name, to_] = 0 := by rw [beginE, HMEM.out, HIB.out]; simp [hz]
        rw [hc]
        clear hc
        have HZ := Lib.hid hz
        clear hz
        go_enter Try.func50, Try.ntmps50
        go_upto_region 8 with (go_at_call 54; refine (HAT.out _ (HF.out.below (((Below.refl _ _).alloc (Nat.le_refl _) _).alloc (by simp) _))).mono ?_; rintro e w1 ⟨rfl, hb1⟩; have E1 := Lib.hid (HED.out w1 (hb1.mono (by simp))); clear hb1; obtain ⟨c00, c01, c10, c11, f10, f11⟩ := E1.out.cells; have d0 := (E1.out.2.2.1.cell (World.block_lt_of_cell? w _ D0.out)).trans D0.out; have d1 := (E1.out.2.2.1.cell (World.block_lt_of_cell? w _ D1.out)).trans D1.out; have d2 := (E1.out.2.2.1.cell (World.block_lt_of_cell? w _ D2.out)).trans D2.out)
        have EQ := Lib.hid (E1.out.file (to_, vd, vs))
        go_region_held3 (fun W => Cells5Q w W w1.heap.size (some ⟨b1, o1, none⟩) n c left (to_, vd, vs)) (first | exact EQ.out.five | exact E5.out.five | exact E2.out.five | exact E3.out.five | exact (E3.out.five.set E1.out.2.2.2 _ _).set E1.out.2.2.2 _ _) ((first
          | (go_at_call 71; refine (rwithout_any (.slice (some ⟨b1, o1, none⟩) n c) l (by rw [← HNL.out]; omega) left name _ (HF.out.below EQ.out.toD.drew.2.2.1)).mono ?_; rintro e w5 ⟨v5, rfl, ho5, hb5⟩; have E5 := Lib.hid (EQ.out.drew.below hb5); have O5 := Lib.hid (filesAt_owned ho5); obtain ⟨a5, c5, rfl, _⟩ := filesAt_owned ho5; clear ho5 hb5)
          | (go_at_call 70; refine (rwith_any (.slice a5 _ c5) (withoutL l name) (by have := withoutL_length l name; rw [← HNL.out] at this; omega) 0 to_ vd vs _ O5.out).mono ?_; rintro e w2 ⟨v2, rfl, ho2, hb2⟩; have E2 := Lib.hid (E5.out.below hb2); have O2 := Lib.hid ho2; obtain ⟨a2, c2, rfl, _⟩ := filesAt_owned ho2; clear ho2 hb2)
          | (go_at_call 69; refine (rpass1 (some ⟨b1, o1, none⟩) a2 n c _ c2 left h1 h2 HZ.out _).mono ?_; rintro e w3 ⟨rfl, hb3⟩; have E3 := Lib.hid (E2.out.below hb3); have B3 := Lib.hid hb3; clear hb3; obtain ⟨_, _, z10, z11, y10, y11⟩ := E3.out.toD.cells)))
        go_wp2
        obtain ⟨r0, r1, r2⟩ := last_cells E3.out.2.1 (.slice a2 (withL (withoutL l name) (to_, vd, vs)).length c2) (.int .i64 (leftE 0 left))
        have hlen := Nat.le_trans (withL_length (withoutL l name) (to_, vd, vs)) (Nat.succ_le_succ (withoutL_length l name))
        refine bodyPost_ret (v := .tuple #[.agg #[.slice a2 (withL (withoutL l name) (to_, vd, vs)).length c2, .int .i64 (leftE 0 left)], .int .i64 0]) (by simp [results, Try.results50, go_sem, r1, r2]) rfl ⟨_, rfl, ⟨withL (withoutL l name) (to_, vd, vs), filesAt_owned (owns_last2 (owns_below O2.out B3.out) E5.out.toD.2.2.2 _ _), by rw [rename_lists g name to_ _ HG.out]; exact (HL.out.without name).with (to_, vd, vs), by rw [← HNL.out] at hlen; omega⟩, E3.out.toD.last _ _⟩
end Go.Proofs.Ytpllcnpcplbobaa
