import Derived.Test.YtpllcnpcplbobaaRf2
namespace Go.Proofs.Ytpllcnpcplbobaa
open Go.RowKit Go.Maps
set_option maxRecDepth 100000 in
set_option maxHeartbeats 2000000 in
theorem rwith_any (va : Value) (l : List RF) (hm : l.length ≤ 1099511627776) (left : Int) (xn xd : ByteArray) (xs : Int) (w : World) (hA : FilesAt w va l) :
    Calls Try.prog 70 #[.agg #[va, .int .i64 left], .agg #[.string xn, .string xd, .int .i64 xs]] w fun e w' => ∃ v, e = .returned v ∧ w'.ownsRow w.heap.size 91 3 v (withL l (xn, xd, xs)).length (rcells (withL l (xn, xd, xs))) ∧ Below w.heap.size w w' := by
  obtain ⟨i0, hi, hz0, hz1, hz2⟩ := info_parts infoFile
  obtain ⟨a, ca, rfl, ha⟩ := hA
  obtain ⟨n, hn⟩ : ∃ n, n = l.length := ⟨_, rfl⟩
  rw [← hn] at hm ⊢
  have HA := Lib.hid ha
  have HN := Lib.hid hn
  have HI := Lib.hid hi
  have HZ0 := Lib.hid hz0
  have HZ1 := Lib.hid hz1
  have HZ2 := Lib.hid hz2
  clear ha hn hi hz0 hz1 hz2
  have hx0 : ∀ W : World, Below (w.heap.size + 2) ((w.alloc (.cells #[.slice a n ca, .int .i64 left] 57)).alloc (.cells #[.string xn, .string xd, .int .i64 xs] 91)) W →
      W.cell? ⟨w.heap.size + 1, 0, none⟩ = some (.string xn) ∧ W.cell? ⟨w.heap.size + 1, 1, none⟩ = some (.string xd) ∧ W.cell? ⟨w.heap.size + 1, 2, none⟩ = some (.int .i64 xs) ∧ W.cell? ⟨w.heap.size, 0, none⟩ = some (.slice a n ca) ∧ Below w.heap.size w W ∧ w.heap.size + 2 ≤ W.heap.size := fun W hW => by
    have hb : Below w.heap.size w W := (((Below.refl _ _).alloc (Nat.le_refl _) _).alloc (by simp) _).trans (hW.mono (by omega))
    have h1 := heap_alloc2_new w (.cells #[.slice a n ca, .int .i64 left] 57) (.cells #[.string xn, .string xd, .int .i64 xs] 91)
    have hsz : w.heap.size + 2 ≤ W.heap.size := by have := hW.size; simp at this; omega
    refine ⟨?_, ?_, ?_, ?_, hb, hsz⟩
    · exact (hW.cell (by simp)).trans (by rw [cell_of_row _ _ _ _ _ _ h1]; rfl)
    · exact (hW.cell (by simp)).trans (by rw [cell_of_row _ _ _ _ _ _ h1]; rfl)
    · exact (hW.cell (by simp)).trans (by rw [cell_of_row _ _ _ _ _ _ h1]; rfl)
    · refine (hW.cell (by simp)).trans ?_
      rw [cell_of_row _ _ _ _ _ _ ((heap_alloc_old _ _ (by simp)).trans (heap_alloc_new w _))]; rfl
  have HX := Lib.hid hx0
  clear hx0
  go_enter Try.func70, Try.ntmps70
  go_wp2_with fail
  obtain ⟨W0, hW0⟩ : ∃ W0, W0 = (w.alloc (.cells #[.slice a n ca, .int .i64 left] 57)).alloc (.cells #[.string xn, .string xd, .int .i64 xs] 91) := ⟨_, rfl⟩
  have hs0 : W0.heap.size = w.heap.size + 2 := by rw [hW0]; simp
  rw [← hW0] at HX
  have hstart : (W0.alloc (.cells #[] 91)).ownsRow (w.heap.size + 2) 91 3 (.slice (some ⟨w.heap.size + 2, 0, none⟩) 0 0) 0 [] := owns_nil3 _ _ _ hs0 (Nat.le_refl _) _
  have hst2 : Below (w.heap.size + 2) W0 (W0.alloc (.cells #[] 91)) := (Below.refl _ _).alloc (by omega) _
  rw [hW0] at hstart hst2
  have HST := Lib.hid hstart
  have HST2 := Lib.hid hst2
  rw [hW0] at HX
  clear hs0 hstart hst2 hW0 W0
  go_loopw [5, 14] (fun v i wr => ∃ (k : Nat) (acc : List RF), k ≤ n ∧ i = .int .i64 k ∧ acc = lowL (l.take k) xn ∧ acc.length ≤ k ∧ wr.ownsRow (w.heap.size + 2) 91 3 v acc.length (rcells acc) ∧
     Below (w.heap.size + 2) ((w.alloc (.cells #[.slice a n ca, .int .i64 left] 57)).alloc (.cells #[.string xn, .string xd, .int .i64 xs] 91)) wr) (fun _ i _ => n - (intOf i).toNat)
  case atStart => exact ⟨0, [], by omega, rfl, rfl, by simp, HST.out, HST2.out⟩
  case round =>
    obtain ⟨k, acc, hk, rfl, hacc, hal, hown, hbel0⟩ := hrel
    obtain ⟨x0, x1, x2, x3, hbel, hsz⟩ := HX.out _ hbel0
    have hs1 : w.heap.size + 1 < wr.heap.size := by omega
    have hs2 : w.heap.size < wr.heap.size := by omega
    have HO := Lib.hid hown
    have HB := Lib.hid hbel
    have HB0 := Lib.hid hbel0
    have HAL := Lib.hid hal
    by_cases hlt : k < n
    · have hAk : k < l.length := by rw [← HN.out]; exact hlt
      rcases HA.out with h0 | ⟨b1, o1, rfl, hc1⟩
      · omega
      have hts := filter_take_succ (fun f : RF => lessB f.1 xn) l k hAk
      obtain ⟨f, hf⟩ : ∃ f, f = l[k] := ⟨_, rfl⟩
      have hc := hc1 k hAk
      rw [← hf] at hc hts
      obtain ⟨fn, fd, fs⟩ := f
      have d0 := hc 0 _ rfl
      have d1 := hc 1 _ rfl
      have d2 := hc 2 _ rfl
      simp only [Nat.add_zero] at d0 d1 d2
      replace d0 := (hbel.cell (World.block_lt_of_cell? w _ d0)).trans d0
      replace d1 := (hbel.cell (World.block_lt_of_cell? w _ d1)).trans d1
      replace d2 := (hbel.cell (World.block_lt_of_cell? w _ d2)).trans d2
      cases hxy : lessB fn xn with
      | false =>
        have ht : Op.bytesLess fn.toList xn.toList = false := hxy
        have HTS := Lib.hid (show lowL (l.take (k + 1)) xn = acc by unfold lowL at *; rw [hts, hacc]; simp [hxy])
        clear hc1 hc HA hf hbel hbel0 hacc hal hown hts hxy
        go_wp2
        go_roundw
        case measure => simp [intOf]; omega
        case rel =>
          exact ⟨k + 1, acc, by omega, by go_num, HTS.out.symm, by have := HAL.out; omega, HO.out.alloc _, HB0.out.alloc hsz _⟩
      | true =>
        have ht : Op.bytesLess fn.toList xn.toList = true := hxy
        have HTS := Lib.hid (show lowL (l.take (k + 1)) xn = acc ++ [(fn, fd, fs)] by unfold lowL at *; rw [hts, hacc]; simp [hxy])
        clear hc1 hc HA hf hbel hbel0 hacc hal hown hts hxy
        go_wp2_with (at_builtin; go_must (refine wpList_append_own_at _ rfl _ _ 55 rfl (w.heap.size + 2) 91 i0 (.agg #[.string ⟨#[]⟩, .string ⟨#[]⟩, .int .i64 0]) 3 40 Try.underlying55 HI.out HZ0.out HZ1.out HZ2.out rfl (by omega) _ acc.length (rcells acc) rfl ((HO.out.alloc _).alloc _) ⟨_, 0, none⟩ 1 1 [.string fn, .string fd, .int .i64 fs] rfl rfl (World.news_of_block (heap_alloc2_new _ _ _)) (rf_one (fn, fd, fs)) ?ga1 ?ga2 ?ga3 ?ga4))
        case ga1 => have := HAL.out; simp only [maxLen]; omega
        case ga2 => have := HAL.out; omega
        case ga3 => simp; omega
        intro v' w' hown' hgrow' _ _
        go_wp2
        go_roundw
        case measure => simp [intOf]; omega
        case rel =>
          refine ⟨k + 1, acc ++ [(fn, fd, fs)], by omega, by go_num, HTS.out.symm, by have := HAL.out; simp; omega, ?_, ?_⟩
          · rw [rcells_snoc]; simpa [RF.cells] using hown'
          · exact below_grow ((HB0.out.alloc hsz _).alloc (by simp; omega) _) hgrow' (fun g e => (HO.out.lt g e).1) (by simp; omega)
    · have hkn : l.take k = l := List.take_of_length_le (by rw [← HN.out]; omega)
      rw [hkn] at hacc
      have HAC := Lib.hid hacc
      clear hkn hacc hown hbel hbel0 hal
      go_wp2_with (at_builtin; go_must (refine wpList_append_own_at _ rfl _ _ 55 rfl (w.heap.size + 2) 91 i0 (.agg #[.string ⟨#[]⟩, .string ⟨#[]⟩, .int .i64 0]) 3 40 Try.underlying55 HI.out HZ0.out HZ1.out HZ2.out rfl (by omega) _ acc.length (rcells acc) rfl (HO.out.alloc _) ⟨_, 0, none⟩ 1 1 [.string xn, .string xd, .int .i64 xs] rfl rfl (World.news_of_block (heap_alloc_new _ _)) (rf_one (xn, xd, xs)) ?gb1 ?gb2 ?gb3 ?gb4))
      case gb1 => have := HAL.out; simp only [maxLen]; omega
      case gb2 => have := HAL.out; omega
      case gb3 => simp; omega
      intro v1 w1 hown1 hgrow1 _ _
      have hb1 : Below (w.heap.size + 2) ((w.alloc (.cells #[.slice a n ca, .int .i64 left] 57)).alloc (.cells #[.string xn, .string xd, .int .i64 xs] 91)) w1 := below_grow (HB0.out.alloc hsz _) hgrow1 (fun g e => (HO.out.lt g e).1) (by simp; omega)
      have hown1' : w1.ownsRow (w.heap.size + 2) 91 3 v1 (acc ++ [(xn, xd, xs)]).length (rcells (acc ++ [(xn, xd, xs)])) := by
        rw [rcells_snoc]; simpa [RF.cells] using hown1
      obtain ⟨A1, hA1⟩ : ∃ A1, A1 = acc ++ [(xn, xd, xs)] := ⟨_, rfl⟩
      have hA1l : A1.length ≤ n + 1 := by have := HAL.out; rw [hA1]; simp; omega
      rw [← hA1] at hown1'
      rw [HAC.out] at hA1
      obtain ⟨y0, y1, y2, y3, ybel, ysz⟩ := HX.out _ hb1
      have HO1 := Lib.hid hown1'
      have HB1 := Lib.hid hb1
      have HA1 := Lib.hid hA1
      clear hown1 hown1' hb1 hgrow1 hA1 HAC HB0 HB HO HAL x0 x1 x2 x3 ybel
      go_wp2_with fail
      go_loopw [5, 35] (fun v i wr => ∃ (k : Nat) (acc : List RF), k ≤ n ∧ i = .int .i64 k ∧ acc = A1 ++ highL (l.take k) xn ∧ acc.length ≤ n + 1 + k ∧ wr.ownsRow (w.heap.size + 2) 91 3 v acc.length (rcells acc) ∧
        Below (w.heap.size + 2) ((w.alloc (.cells #[.slice a n ca, .int .i64 left] 57)).alloc (.cells #[.string xn, .string xd, .int .i64 xs] 91)) wr) (fun _ i _ => n - (intOf i).toNat)
      case atStart => exact ⟨0, A1, by omega, rfl, by simp [highL], by omega, HO1.out, HB1.out⟩
      case round =>
        obtain ⟨k, acc, hk, rfl, hacc, hal, hown, hbel0⟩ := hrel
        obtain ⟨x0, x1, x2, x3, hbel, hsz⟩ := HX.out _ hbel0
        have hs1 : w.heap.size + 1 < wr.heap.size := by omega
        have hs2 : w.heap.size < wr.heap.size := by omega
        have HO := Lib.hid hown
        have HB := Lib.hid hbel
        have HB0 := Lib.hid hbel0
        have HAL := Lib.hid hal
        by_cases hlt : k < n
        · have hAk : k < l.length := by rw [← HN.out]; exact hlt
          rcases HA.out with h0 | ⟨b1, o1, rfl, hc1⟩
          · omega
          have hts := filter_take_succ (fun f : RF => lessB xn f.1) l k hAk
          obtain ⟨f, hf⟩ : ∃ f, f = l[k] := ⟨_, rfl⟩
          have hc := hc1 k hAk
          rw [← hf] at hc hts
          obtain ⟨fn, fd, fs⟩ := f
          have d0 := hc 0 _ rfl
          have d1 := hc 1 _ rfl
          have d2 := hc 2 _ rfl
          simp only [Nat.add_zero] at d0 d1 d2
          replace d0 := (hbel.cell (World.block_lt_of_cell? w _ d0)).trans d0
          replace d1 := (hbel.cell (World.block_lt_of_cell? w _ d1)).trans d1
          replace d2 := (hbel.cell (World.block_lt_of_cell? w _ d2)).trans d2
          cases hxy : lessB xn fn with
          | false =>
            have ht : (!(Op.bytesLess fn.toList xn.toList || fn.toList == xn.toList)) = false := (gtB fn xn).trans hxy
            have HTS := Lib.hid (show A1 ++ highL (l.take (k + 1)) xn = acc by unfold highL at *; rw [hts, hacc]; simp [hxy])
            clear hc1 hc HA hf hbel hbel0 hacc hal hown hts hxy
            go_wp2
            go_roundw
            case measure => simp [intOf]; omega
            case rel =>
              exact ⟨k + 1, acc, by omega, by go_num, HTS.out.symm, by have := HAL.out; omega, HO.out.alloc _, HB0.out.alloc hsz _⟩
          | true =>
            have ht : (!(Op.bytesLess fn.toList xn.toList || fn.toList == xn.toList)) = true := (gtB fn xn).trans hxy
            have HTS := Lib.hid (show A1 ++ highL (l.take (k + 1)) xn = acc ++ [(fn, fd, fs)] by unfold highL at *; rw [hts, hacc]; simp [hxy])
            clear hc1 hc HA hf hbel hbel0 hacc hal hown hts hxy
            go_wp2_with (at_builtin; go_must (refine wpList_append_own_at _ rfl _ _ 55 rfl (w.heap.size + 2) 91 i0 (.agg #[.string ⟨#[]⟩, .string ⟨#[]⟩, .int .i64 0]) 3 40 Try.underlying55 HI.out HZ0.out HZ1.out HZ2.out rfl (by omega) _ acc.length (rcells acc) rfl ((HO.out.alloc _).alloc _) ⟨_, 0, none⟩ 1 1 [.string fn, .string fd, .int .i64 fs] rfl rfl (World.news_of_block (heap_alloc2_new _ _ _)) (rf_one (fn, fd, fs)) ?gc1 ?gc2 ?gc3 ?gc4))
            case gc1 => have := HAL.out; simp only [maxLen]; omega
            case gc2 => have := HAL.out; omega
            case gc3 => simp; omega
            intro v' w' hown' hgrow' _ _
            go_wp2
            go_roundw
            case measure => simp [intOf]; omega
            case rel =>
              refine ⟨k + 1, acc ++ [(fn, fd, fs)], by omega, by go_num, HTS.out.symm, by have := HAL.out; simp; omega, ?_, ?_⟩
              · rw [rcells_snoc]; simpa [RF.cells] using hown'
              · exact below_grow ((HB0.out.alloc hsz _).alloc (by simp; omega) _) hgrow' (fun g e => (HO.out.lt g e).1) (by simp; omega)
        · have hkn : l.take k = l := List.take_of_length_le (by rw [← HN.out]; omega)
          rw [hkn, HA1.out] at hacc
          have HAC := Lib.hid hacc
          clear hkn hacc hown hbel hbel0 hal
          go_wp2
          go_ret
          refine ⟨_, rfl, ?_, HB.out⟩
          rw [show withL l (xn, xd, xs) = acc from HAC.out.symm]
          exact ownsRow_base_a HO.out (by omega)
end Go.Proofs.Ytpllcnpcplbobaa
