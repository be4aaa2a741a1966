import Derived.Test.YtpllcnpcplbobaaRf9
namespace Go.Proofs.Ytpllcnpcplbobaa
open Go.RowKit Go.Maps
theorem owns_nil1 (w : World) (base m : Nat) (hm : w.heap.size = m) (hb : base ≤ m) (e : TypeId) : (w.alloc (.cells #[] e)).ownsRow base e 1 (.slice (some ⟨m, 0, none⟩) 0 0) 0 [] := by
  subst hm
  exact ⟨rfl, .inr ⟨w.heap.size, 0, #[], rfl, hb, heap_alloc_new _ _, Nat.le_refl _, by decide, rfl, rfl⟩⟩
set_option maxRecDepth 100000 in
theorem rnew_any (w : World) : Calls Try.prog 32 #[] w fun e w' => e = .returned (.agg #[.slice none 0 0, .int .i64 (-1)]) ∧ Below w.heap.size w w' := by
  go_enter Try.func32, Try.ntmps32
  go_wp2
  exact bodyPost_ret (v := .agg #[.slice none 0 0, .int .i64 (-1)]) (by simp [results, Try.results32, go_sem]) rfl ⟨rfl, (Below.refl _ _).alloc (Nat.le_refl _) _⟩
set_option maxRecDepth 100000 in
set_option maxHeartbeats 1000000 in
theorem rread_any (va : Value) (g : FS) (N : Nat) (hN : N ≤ 1099511627775) (left : Int) (name : ByteArray) (w : World) (hA : RefAt w va g N) :
    Calls Try.prog 36 #[.agg #[va, .int .i64 left], .string name] w fun e w' => e = .returned (readV g name) ∧ Below w.heap.size w w' := by
  obtain ⟨l, hF, hL, hn⟩ := hA
  have hF2 := hF
  obtain ⟨a, c, rfl, ha⟩ := hF
  have HF := Lib.hid hF2
  have HL := Lib.hid hL
  obtain ⟨n, hnl⟩ : ∃ n, n = l.length := ⟨_, rfl⟩
  rw [← hnl] at hn HF ⊢
  have HNL := Lib.hid hnl
  have HA := Lib.hid ha
  clear hF2 hL ha hnl
  cases hg : g name with
  | none =>
    have he : readV g name = .tuple #[.string ⟨#[]⟩, .int .i64 10] := by rw [readV, hg]
    have hat := fun W h => rat_none HL.out (by rw [← HNL.out]; omega) hg (.slice a n c) left W h
    have HAT := Lib.hid hat
    rw [he]
    clear hat hg he
    go_enter Try.func36, Try.ntmps36
    go_wp2_with (go_at_call 54; refine (HAT.out _ (HF.out.below ((Below.refl _ _).alloc (Nat.le_refl _) _))).mono ?_; rintro e w1 ⟨rfl, hb1⟩)
    go_ret2
    exact ⟨rfl, ((Below.refl _ _).alloc (Nat.le_refl _) _).trans (hb1.mono (by simp))⟩
  | some v =>
    obtain ⟨vd, vs⟩ := v
    have he : readV g name = .tuple #[.string vd, .int .i64 0] := by rw [readV, hg]
    rw [he]
    obtain ⟨k, hk, hlk, hat⟩ := rat_some HL.out (by rw [← HNL.out]; omega) hg
    have hat := fun W h => hat (.slice a n c) left W h
    have hkn : k < n := by rw [HNL.out]; exact hk
    rcases HA.out with h0 | ⟨b1, o1, rfl, hc1⟩
    · rw [← HNL.out] at h0; omega
    have hc := hc1 k hk
    rw [hlk] at hc
    have d1 := hc 1 _ rfl
    have hx0 : ∀ W : World, Below (w.alloc (.cells #[.slice (some ⟨b1, o1, none⟩) n c, .int .i64 left] 57)).heap.size (w.alloc (.cells #[.slice (some ⟨b1, o1, none⟩) n c, .int .i64 left] 57)) W → Below w.heap.size w W ∧ W.cell? ⟨w.heap.size, 0, none⟩ = some (.slice (some ⟨b1, o1, none⟩) n c) := fun W hW =>
      ⟨((Below.refl _ _).alloc (Nat.le_refl _) _).trans (hW.mono (by simp)), (hW.cell (by simp)).trans (by rw [cell_of_row _ _ _ _ _ _ (heap_alloc_new w _)]; rfl)⟩
    have D1 := Lib.hid d1
    have HX := Lib.hid hx0
    have HAT := Lib.hid hat
    clear hat hg hc1 hc d1 hlk hk HA he hx0
    go_enter Try.func36, Try.ntmps36
    go_wp2_with (go_at_call 54; refine (HAT.out _ (HF.out.below ((Below.refl _ _).alloc (Nat.le_refl _) _))).mono ?_; rintro e w1 ⟨rfl, hb1⟩; obtain ⟨hb, c0⟩ := HX.out w1 hb1; have d1 := (hb.cell (World.block_lt_of_cell? w _ D1.out)).trans D1.out; have HB := Lib.hid hb; clear hb hb1)
    go_ret2
    exact ⟨rfl, HB.out⟩
set_option maxRecDepth 100000 in
theorem rbudget_any (va : Value) (g : FS) (N : Nat) (left m : Int) (w : World) (hA : RefAt w va g N) :
    Calls Try.prog 52 #[.agg #[va, .int .i64 left], .int .i64 m] w fun e w' => e = .returned (.agg #[va, .int .i64 (max m (-1))]) ∧ Below w.heap.size w w' := by
  obtain ⟨l, ⟨a, c, rfl, _⟩, _, _⟩ := hA
  obtain ⟨q, hq⟩ : ∃ q, q = max m (-1) := ⟨_, rfl⟩
  rw [← hq]
  by_cases h : m < 0
  · have : q = -1 := by omega
    subst this
    clear hq
    go_enter Try.func52, Try.ntmps52
    go_wp2
    exact bodyPost_ret (v := .agg #[.slice a l.length c, .int .i64 (-1)]) (by simp [results, Try.results52, go_sem]) rfl ⟨rfl, ((Below.refl _ _).alloc (Nat.le_refl _) _).alloc (by simp) _⟩
  · have : q = m := by omega
    subst this
    clear hq
    go_enter Try.func52, Try.ntmps52
    go_wp2
    exact bodyPost_ret (v := .agg #[.slice a l.length c, .int .i64 q]) (by simp [results, Try.results52, go_sem]) rfl ⟨rfl, ((Below.refl _ _).alloc (Nat.le_refl _) _).alloc (by simp) _⟩
set_option maxRecDepth 100000 in
set_option maxHeartbeats 1000000 in
theorem rnames_any (va : Value) (l : List RF) (hm : l.length ≤ 1099511627776) (left : Int) (w : World) (hA : FilesAt w va l) :
    Calls Try.prog 53 #[.agg #[va, .int .i64 left]] w fun e w' => ∃ v, e = .returned v ∧ w'.ownsRow w.heap.size 9 1 v (l.map (·.1)).length (strs (l.map (·.1))) ∧ Below w.heap.size w w' := by
  obtain ⟨i0, hi, hz0, hz1, hz2⟩ := info_parts infoStr
  obtain ⟨a, ca, rfl, ha⟩ := hA
  obtain ⟨n, hn⟩ : ∃ n, n = l.length := ⟨_, rfl⟩
  rw [← hn] at hm ⊢
  have HA := Lib.hid ha
  have HN := Lib.hid hn
  have HI := Lib.hid hi
  have HZ0 := Lib.hid hz0
  have HZ1 := Lib.hid hz1
  have HZ2 := Lib.hid hz2
  clear ha hn hi hz0 hz1 hz2
  go_enter Try.func53, Try.ntmps53
  go_wp2_with fail
  go_loopw [3, 10] (fun v i wr => ∃ (k : Nat) (acc : List ByteArray), k ≤ n ∧ i = .int .i64 k ∧ acc = (l.take k).map (·.1) ∧ acc.length ≤ k ∧ wr.ownsRow w.heap.size 9 1 v acc.length (strs acc) ∧ Below w.heap.size w wr) (fun _ i _ => n - (intOf i).toNat)
  case atStart => exact ⟨0, [], by omega, rfl, rfl, by simp, owns_nil1 _ _ _ (by simp) (by omega) _, ((Below.refl _ _).alloc (Nat.le_refl _) _).alloc (by simp) _⟩
  case round =>
    obtain ⟨k, acc, hk, rfl, hacc, hal, hown, hbel⟩ := hrel
    by_cases hlt : k < n
    · have hAk : k < l.length := by rw [← HN.out]; exact hlt
      rcases HA.out with h0 | ⟨b1, o1, rfl, hc1⟩
      · omega
      have hts : (l.take (k + 1)).map (·.1) = acc ++ [(l[k]).1] := by rw [List.take_succ_eq_append_getElem hAk, List.map_append, hacc]; rfl
      obtain ⟨f, hf⟩ : ∃ f, f = l[k] := ⟨_, rfl⟩
      have hc := hc1 k hAk
      rw [← hf] at hc hts
      obtain ⟨fn, fd, fs⟩ := f
      have d0 := hc 0 _ rfl
      have d1 := hc 1 _ rfl
      have d2 := hc 2 _ rfl
      simp only [Nat.add_zero] at d0 d1 d2
      replace d0 := (hbel.cell (World.block_lt_of_cell? w _ d0)).trans d0
      replace d1 := (hbel.cell (World.block_lt_of_cell? w _ d1)).trans d1
      replace d2 := (hbel.cell (World.block_lt_of_cell? w _ d2)).trans d2
      have HO := Lib.hid hown
      have HB := Lib.hid hbel
      have HAL := Lib.hid hal
      have HTS := Lib.hid hts
      have hbase := hbel.size
      clear hc1 hc HA hf hbel hacc hal hown hts
      go_wp2_with (at_builtin; go_must (refine wpList_append_own_at _ rfl _ _ 30 rfl w.heap.size 9 i0 (.string ⟨#[]⟩) 1 16 Try.underlying30 HI.out HZ0.out HZ1.out HZ2.out rfl (by omega) _ acc.length (strs acc) rfl ((HO.out.alloc _).alloc _) ⟨_, 0, none⟩ 1 1 [.string fn] rfl rfl (World.news_of_block (heap_alloc2_new _ _ _)) (by simp [Value.oneCell']) ?g1 ?g2 ?g3 ?g4))
      case g1 => have := HAL.out; simp only [maxLen]; omega
      case g2 => have := HAL.out; omega
      case g3 => omega
      intro v' w' hown' hgrow' _ _
      go_wp2
      go_roundw
      case measure => simp [intOf]; omega
      case rel =>
        refine ⟨k + 1, acc ++ [fn], by omega, by go_num, HTS.out.symm, by have := HAL.out; simp; omega, ?_, ?_⟩
        · simpa [strs] using hown'
        · exact below_grow ((HB.out.alloc HB.out.size _).alloc (by simp; omega) _) hgrow' (fun g e => (HO.out.lt g e).1) (by simp; omega)
    · have hkn : l.take k = l := List.take_of_length_le (by rw [← HN.out]; omega)
      rw [hkn] at hacc
      have HO := Lib.hid hown
      have HB := Lib.hid hbel
      have HAC := Lib.hid hacc
      clear hkn hacc hown hbel hal
      go_wp2
      go_ret
      exact ⟨_, rfl, by rw [← HAC.out]; exact HO.out, HB.out⟩
end Go.Proofs.Ytpllcnpcplbobaa
