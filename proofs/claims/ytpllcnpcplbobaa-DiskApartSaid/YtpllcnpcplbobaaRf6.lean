import Derived.Test.YtpllcnpcplbobaaRf5
namespace Go.Proofs.Ytpllcnpcplbobaa
open Go.RowKit Go.Maps
attribute [local go_sem ↓] Go.wp_at_zero Go.wp_at_succ
theorem blk2 {W : World} {b : Nat} {x y : Value} {t : TypeId} (h : W.heap[b]? = some (.cells #[x, y] t (0, 0))) :
    W.cell? ⟨b, 0, none⟩ = some x ∧ W.cell? ⟨b, 1, none⟩ = some y ∧ W.frozen? ⟨b, 0, none⟩ = false ∧ W.frozen? ⟨b, 1, none⟩ = false :=
  ⟨by rw [cell_of_row _ _ _ _ _ _ h]; rfl, by rw [cell_of_row _ _ _ _ _ _ h]; rfl, frozen_of_row _ _ _ _ _ h, frozen_of_row _ _ _ _ _ h⟩
theorem blk3 {W : World} {b : Nat} {x y z : Value} {t : TypeId} (h : W.heap[b]? = some (.cells #[x, y, z] t (0, 0))) :
    W.cell? ⟨b, 0, none⟩ = some x ∧ W.cell? ⟨b, 1, none⟩ = some y ∧ W.cell? ⟨b, 2, none⟩ = some z ∧ W.frozen? ⟨b, 0, none⟩ = false ∧ W.frozen? ⟨b, 1, none⟩ = false ∧ W.frozen? ⟨b, 2, none⟩ = false :=
  ⟨by rw [cell_of_row _ _ _ _ _ _ h]; rfl, by rw [cell_of_row _ _ _ _ _ _ h]; rfl, by rw [cell_of_row _ _ _ _ _ _ h]; rfl, frozen_of_row _ _ _ _ _ h, frozen_of_row _ _ _ _ _ h, frozen_of_row _ _ _ _ _ h⟩
theorem rat_none {g : FS} {l : List RF} (hl : Lists g l) (hm : l.length ≤ 1099511627776) {x : ByteArray} (hg : g x = none) (va : Value) (left : Int) (W : World) (hA : FilesAt W va l) :
    Calls Try.prog 54 #[.agg #[va, .int .i64 left], .string x] W fun e w' => e = .returned (.int .i64 (-1)) ∧ Below W.heap.size W w' :=
  (rat_any va l hm left x W hA).mono fun e w' ⟨⟨i, he, hi⟩, hb⟩ => by
    rcases hl.atIs hi with ⟨_, rfl⟩ | ⟨k, _, _, d, s, _, h⟩
    · exact ⟨he, hb⟩
    · rw [hg] at h; cases h
theorem rat_some {g : FS} {l : List RF} (hl : Lists g l) (hm : l.length ≤ 1099511627776) {x d : ByteArray} {s : Int} (hg : g x = some (d, s)) :
    ∃ k, ∃ hk : k < l.length, l[k] = (x, d, s) ∧ ∀ (va : Value) (left : Int) (W : World), FilesAt W va l →
    Calls Try.prog 54 #[.agg #[va, .int .i64 left], .string x] W fun e w' => e = .returned (.int .i64 (k : Int)) ∧ Below W.heap.size W w' := by
  obtain ⟨k, hk, e⟩ := List.getElem_of_mem ((hl.all (x, d, s)).2 hg)
  refine ⟨k, hk, e, fun va left W hA => (rat_any va l hm left x W hA).mono fun e' w' ⟨⟨i, he, hi⟩, hb⟩ => ?_⟩
  rcases hl.atIs hi with ⟨h, _⟩ | ⟨k', hk', rfl, d', s', e2, h⟩
  · rw [hg] at h; cases h
  · have : k' = k := by
      have h1 := List.pairwise_iff_getElem.1 hl.rises
      rcases Nat.lt_trichotomy k' k with h3 | h3 | h3
      · exact absurd (by rw [e, e2]) (lessB_ne (h1 k' k hk' hk h3))
      · exact h3
      · exact absurd (by rw [e, e2]) (lessB_ne (h1 k k' hk hk' h3))
    subst this
    exact ⟨he, hb⟩
theorem toList_isEmpty {x : ByteArray} (h : x ≠ ⟨#[]⟩) : x.toList.isEmpty = false := by
  rw [ByteArray.toList_eq]
  cases hx : x.data.toList.isEmpty with
  | false => rfl
  | true => exact absurd (WideShapes.bytes_inj (by simpa using hx)) h
theorem begin_empty (there : Bool) (g : FS) (left : Int) : beginE there g left ⟨#[]⟩ [⟨#[]⟩] = 1 := by
  have : memB ⟨#[]⟩ [⟨#[]⟩] = true := by decide
  rw [beginE, this]; rfl
theorem mem_one {x : ByteArray} (h : x ≠ ⟨#[]⟩) : memB ⟨#[]⟩ [x] = false := by
  cases hm : memB ⟨#[]⟩ [x] with
  | false => rfl
  | true => exact absurd (List.mem_singleton.1 (memB_iff.1 hm)).symm h
/-- Three new blocks, as they are in any later world. -/
theorem three_blocks (w : World) (o0 o1 o2 : Obj) (W : World) (h : Below (w.heap.size + 3) (((w.alloc o0).alloc o1).alloc o2) W) :
    W.heap[w.heap.size]? = some o0 ∧ W.heap[w.heap.size + 1]? = some o1 ∧ W.heap[w.heap.size + 1 + 1]? = some o2 ∧ Below w.heap.size w W ∧ w.heap.size + 3 ≤ W.heap.size := by
  have e1 : (w.alloc o0).heap.size = w.heap.size + 1 := by simp
  have e2 : ((w.alloc o0).alloc o1).heap.size = w.heap.size + 2 := by simp
  have e3 : (((w.alloc o0).alloc o1).alloc o2).heap.size = w.heap.size + 3 := by simp
  refine ⟨?_, ?_, ?_, ((((Below.refl _ _).alloc (Nat.le_refl _) _).alloc (by omega) _).alloc (by omega) _).trans (h.mono (by omega)), by have := h.size; omega⟩
  · exact (h.block _ (by omega)).trans ((heap_alloc_old _ _ (by omega)).trans ((heap_alloc_old _ _ (by omega)).trans (heap_alloc_new w _)))
  · refine (h.block _ (by omega)).trans ((heap_alloc_old _ _ (by omega)).trans ?_)
    rw [← e1]; exact heap_alloc_new _ _
  · refine (h.block _ (by omega)).trans ?_
    have e4 : w.heap.size + 1 + 1 = ((w.alloc o0).alloc o1).heap.size := by omega
    rw [e4]; exact heap_alloc_new _ _
/-- The three blocks that such a call makes for itself: the disk, the result, a file. -/
def Ends (w W : World) (a : Option Addr) (n c : Nat) (left : Int) (f : RF) : Prop :=
  W.heap[w.heap.size]? = some (.cells #[.slice a n c, .int .i64 left] 57 (0, 0)) ∧ W.heap[w.heap.size + 1]? = some (.cells #[.slice none 0 0, .int .i64 0] 57 (0, 0)) ∧
  W.heap[w.heap.size + 1 + 1]? = some (.cells #[.string f.1, .string f.2.1, .int .i64 f.2.2] 91 (0, 0)) ∧ Below w.heap.size w W ∧ w.heap.size + 3 ≤ W.heap.size
theorem ends_new (w : World) (a : Option Addr) (n c : Nat) (left : Int) (f : RF) (W : World) (h : Below (w.heap.size + 3) (((w.alloc (.cells #[.slice a n c, .int .i64 left] 57)).alloc (.cells #[.slice none 0 0, .int .i64 0] 57)).alloc (.cells #[.string f.1, .string f.2.1, .int .i64 f.2.2] 91)) W) :
    Ends w W a n c left f := by
  obtain ⟨q0, q1, q2, q3, q4⟩ := three_blocks w _ _ _ W h
  exact ⟨q0, q1, q2, q3, q4⟩
theorem Ends.below {w W W' : World} {a : Option Addr} {n c : Nat} {left : Int} {f : RF} (h : Ends w W a n c left f) (hb : Below W.heap.size W W') : Ends w W' a n c left f := by
  obtain ⟨h0, h1, h2, h3, h4⟩ := h
  exact ⟨(hb.block _ (by omega)).trans h0, (hb.block _ (by omega)).trans h1, (hb.block _ (by omega)).trans h2, h3.trans (hb.mono (by omega)), Nat.le_trans h4 hb.size⟩
theorem Ends.set {w W : World} {a : Option Addr} {n c : Nat} {left : Int} {f : RF} (h : Ends w W a n c left f) (i : Nat) (u : Value) {f' : RF}
    (hf : (#[.string f.1, .string f.2.1, .int .i64 f.2.2] : Array Value).setIfInBounds i u = #[.string f'.1, .string f'.2.1, .int .i64 f'.2.2]) : Ends w (W.setCell ⟨w.heap.size + 1 + 1, i, none⟩ u) a n c left f' := by
  obtain ⟨h0, h1, h2, h3, h4⟩ := h
  refine ⟨(heap_setCell_other _ _ _ _ (by simp; omega)).trans h0, (heap_setCell_other _ _ _ _ (by simp)).trans h1, ?_, h3.trans ((Below.refl _ _).setCell (by show w.heap.size ≤ w.heap.size + 1 + 1; omega) _), by simpa [World.setCell] using h4⟩
  rw [heap_setCell_same _ _ _ _ _ _ h2, hf]
theorem Ends.drew {w W : World} {a : Option Addr} {n c : Nat} {left : Int} {f : RF} (h : Ends w W a n c left f) : Ends w W.drew a n c left f := ⟨h.1, h.2.1, h.2.2.1, h.2.2.2.1.drew, h.2.2.2.2⟩
abbrev Cells14 (w W : World) (a : Option Addr) (n c : Nat) (left : Int) (f : RF) : Prop :=
  W.cell? ⟨w.heap.size, 0, none⟩ = some (.slice a n c) ∧ W.cell? ⟨w.heap.size, 1, none⟩ = some (.int .i64 left) ∧
  W.cell? ⟨w.heap.size + 1, 0, none⟩ = some (.slice none 0 0) ∧ W.cell? ⟨w.heap.size + 1, 1, none⟩ = some (.int .i64 0) ∧ W.frozen? ⟨w.heap.size + 1, 0, none⟩ = false ∧ W.frozen? ⟨w.heap.size + 1, 1, none⟩ = false ∧
  W.cell? ⟨w.heap.size + 1 + 1, 0, none⟩ = some (.string f.1) ∧ W.cell? ⟨w.heap.size + 1 + 1, 1, none⟩ = some (.string f.2.1) ∧ W.cell? ⟨w.heap.size + 1 + 1, 2, none⟩ = some (.int .i64 f.2.2) ∧
  W.frozen? ⟨w.heap.size + 1 + 1, 0, none⟩ = false ∧ W.frozen? ⟨w.heap.size + 1 + 1, 1, none⟩ = false ∧ W.frozen? ⟨w.heap.size + 1 + 1, 2, none⟩ = false ∧ w.heap.size + 3 ≤ W.heap.size
abbrev Cells5 (w W : World) (a : Option Addr) (n c : Nat) (left : Int) (f : RF) : Prop :=
  W.cell? ⟨w.heap.size, 0, none⟩ = some (.slice a n c) ∧ W.cell? ⟨w.heap.size, 1, none⟩ = some (.int .i64 left) ∧
  W.cell? ⟨w.heap.size + 1 + 1, 0, none⟩ = some (.string f.1) ∧ W.cell? ⟨w.heap.size + 1 + 1, 1, none⟩ = some (.string f.2.1) ∧ W.cell? ⟨w.heap.size + 1 + 1, 2, none⟩ = some (.int .i64 f.2.2)
theorem Cells5.set {w W : World} {a : Option Addr} {n c : Nat} {left : Int} {f : RF} (h : Cells5 w W a n c left f) (i : Nat) (u : Value) : Cells5 w (W.setCell ⟨w.heap.size + 1, i, none⟩ u) a n c left f := by
  obtain ⟨h0, h1, h2, h3, h4⟩ := h
  exact ⟨(World.cell?_setCell_other _ _ _ _ (by simp)).trans h0, (World.cell?_setCell_other _ _ _ _ (by simp)).trans h1, (World.cell?_setCell_other _ _ _ _ (by simp)).trans h2, (World.cell?_setCell_other _ _ _ _ (by simp)).trans h3, (World.cell?_setCell_other _ _ _ _ (by simp)).trans h4⟩
theorem Ends.cells {w W : World} {a : Option Addr} {n c : Nat} {left : Int} {f : RF} (h : Ends w W a n c left f) : Cells14 w W a n c left f := by
  obtain ⟨h0, h1, h2, h3, h4⟩ := h
  obtain ⟨c00, c01, f00, f01⟩ := blk2 h0
  obtain ⟨c10, c11, f10, f11⟩ := blk2 h1
  obtain ⟨c20, c21, c22, f20, f21, f22⟩ := blk3 h2
  exact ⟨c00, c01, c10, c11, f10, f11, c20, c21, c22, f20, f21, f22, h4⟩
theorem Ends.five {w W : World} {a : Option Addr} {n c : Nat} {left : Int} {f : RF} (h : Ends w W a n c left f) : Cells5 w W a n c left f := by
  obtain ⟨c00, c01, _, _, _, _, c20, c21, c22, _, _, _, _⟩ := h.cells
  exact ⟨c00, c01, c20, c21, c22⟩
/-- The last world: the result is written into its own block. -/
theorem Ends.last {w W : World} {a : Option Addr} {n c : Nat} {left : Int} {f : RF} (h : Ends w W a n c left f) (u v : Value) : Below w.heap.size w ((W.setCell ⟨w.heap.size + 1, 0, none⟩ u).setCell ⟨w.heap.size + 1, 1, none⟩ v) :=
  h.2.2.2.1.trans (((Below.refl _ _).setCell (by show w.heap.size ≤ w.heap.size + 1; omega) _).setCell (by show w.heap.size ≤ w.heap.size + 1; omega) _)
theorem owns_last {w W : World} {base : Nat} {e : TypeId} {size : Nat} {v : Value} {m : Nat} {xs : List Value} (h : W.ownsRow base e size v m xs) (hb : w.heap.size + 3 ≤ base) (u u' : Value) : ((W.setCell ⟨w.heap.size + 1, 0, none⟩ u).setCell ⟨w.heap.size + 1, 1, none⟩ u').ownsRow base e size v m xs := by
  have g1 : W.grownBy (W.setCell ⟨w.heap.size + 1, 0, none⟩ u) (some (w.heap.size + 1)) := only_setCell (only_of_below (Below.refl _ _) _) (.inl rfl) _
  have g2 : W.grownBy ((W.setCell ⟨w.heap.size + 1, 0, none⟩ u).setCell ⟨w.heap.size + 1, 1, none⟩ u') (some (w.heap.size + 1)) := only_setCell g1 (.inl rfl) _
  refine h.kept g2 ?_
  cases hv : v.ownBlock with
  | none => exact .inl rfl
  | some k =>
    have := (h.lt k hv).1
    refine .inr fun e => ?_
    injection e with e
    omega
theorem last_cells {W : World} {b : Nat} {x y : Value} {t : TypeId} (h : W.heap[b]? = some (.cells #[x, y] t (0, 0))) (u v : Value) :
    (W.setCell ⟨b, 0, none⟩ u).cell? ⟨b, 0, none⟩ = some u ∧ ((W.setCell ⟨b, 0, none⟩ u).setCell ⟨b, 1, none⟩ v).cell? ⟨b, 0, none⟩ = some u ∧ ((W.setCell ⟨b, 0, none⟩ u).setCell ⟨b, 1, none⟩ v).cell? ⟨b, 1, none⟩ = some v := by
  have h1 := heap_setCell_same W b 0 _ _ u h
  have h2 := heap_setCell_same _ b 1 _ _ v h1
  exact ⟨by rw [cell_of_row _ _ _ _ _ _ h1]; rfl, by rw [cell_of_row _ _ _ _ _ _ h2]; rfl, by rw [cell_of_row _ _ _ _ _ _ h2]; rfl⟩
set_option maxRecDepth 100000 in
set_option maxHeartbeats 2000000 in
theorem rappend_any (va : Value) (g : FS) (N : Nat) (hN : N ≤ 1099511627775) (left : Int) (h1 : -1 ≤ left) (h2 : left ≤ 9223372036854775807) (name data : ByteArray) (hsz : ((g name).getD noFile).1.size + data.size ≤ 1099511627776) (w : World) (hA : RefAt w va g N) :
    Calls Try.prog 47 #[.agg #[va, .int .i64 left], .string name, .string data] w fun e w' => ∃ v', e = .returned (.tuple #[.agg #[v', .int .i64 (leftE (beginE false g left name [name]) left)], .int .i64 (beginE false g left name [name])]) ∧
      RefAt w' v' (appendG (beginE false g left name [name]) g name data) (N + 1) ∧ Below w.heap.size w w' := by
  obtain ⟨l, hF, hL, hn⟩ := hA
  have hF2 := hF
  obtain ⟨a, c, rfl, ha⟩ := hF
  have HF := Lib.hid hF2
  have HL := Lib.hid hL
  obtain ⟨n, hnl⟩ : ∃ n, n = l.length := ⟨_, rfl⟩
  rw [← hnl] at hn HF ⊢
  have HA := Lib.hid ha
  have HNL := Lib.hid hnl
  clear hF2 hL ha hnl
  by_cases hne : name = ⟨#[]⟩
  · subst hne
    rw [begin_empty]
    go_enter Try.func47, Try.ntmps47
    go_wp2
    refine bodyPost_ret (v := .tuple #[.agg #[.slice a n c, .int .i64 left], .int .i64 1]) (by simp [results, Try.results47, go_sem]) rfl ⟨_, rfl, ?_, ?_⟩
    · refine RefAt.below ⟨l, HF.out, ?_, by rw [← HNL.out]; omega⟩ ((((Below.refl _ _).alloc (Nat.le_refl _) _).alloc (by simp) _))
      rw [appendG, if_neg (by decide)]; exact HL.out
    · exact (((Below.refl _ _).alloc (Nat.le_refl _) _).alloc (by simp) _)
  · have hnb := toList_isEmpty hne
    have hmem := mem_one hne
    obtain ⟨fd, fs, hfv⟩ : ∃ fd fs, (fd, fs) = (g name).getD noFile := ⟨_, _, rfl⟩
    rw [← hfv] at hsz
    simp only at hsz
    have HFV := Lib.hid hfv
    have HNE := Lib.hid hne
    have HMEM := Lib.hid hmem
    clear hfv hmem hne
    have hthree := ends_new w a n c left (name, ⟨#[]⟩, 0)
    have HTH := Lib.hid hthree
    clear hthree
    cases hg : g name with
    | none =>
      have hat := fun W h => rat_none HL.out (by rw [← HNL.out]; omega) hg (.slice a n c) left W h
      have HAT := Lib.hid hat
      have HG := Lib.hid hg
      clear hat hg
      go_enter Try.func47, Try.ntmps47
      go_upto_region 7 with (go_at_call 54; refine (HAT.out _ (HF.out.below ((((Below.refl _ _).alloc (Nat.le_refl _) _).alloc (by simp) _).alloc (by simp; omega) _))).mono ?_; rintro e w1 ⟨rfl, hb1⟩; have E1 := Lib.hid (HTH.out w1 (hb1.mono (by simp))); clear hb1)
      obtain ⟨c00, c01, c10, c11, f10, f11, c20, c21, c22, f20, f21, f22, hsw⟩ := E1.out.cells
      simp only at c20 c21 c22
      go_cut [] (fun wx => Ends w wx a n c left (name, fd ++ data, fs))
      case first =>
        go_wp2_with fail
        go_meet
        have hfv := HFV.out
        rw [HG.out] at hfv
        simp only [Option.getD_none, noFile, Prod.mk.injEq] at hfv
        refine E1.out.set 1 _ ?_
        rw [hfv.1, hfv.2]; rfl
      case rest =>
        clear c00 c01 c10 c11 f10 f11 c20 c21 c22 f20 f21 f22 hsw E1
        obtain ⟨F, hF⟩ : ∃ F : RF, F = (name, fd ++ data, fs) := ⟨_, rfl⟩
        have HE := Lib.hid (show Ends w wc a n c left F by rw [hF]; exact hcut)
        obtain ⟨c00, c01, c10, c11, f10, f11, c20, c21, c22, f20, f21, f22, hsw⟩ := HE.out.cells
        have HFF := Lib.hid hF
        clear hcut hF
        go_wp2_with fail
        by_cases hz : left = 0
        · subst hz
          go_region_held3 (fun W => Cells5 w W a n c 0 F) (first | exact HE.out.five | exact E2.out.five | exact E3.out.five | exact (E3.out.five.set _ _).set _ _) ((first
            | (go_at_call 70; refine (rwith_any (.slice a n c) l (by rw [← HNL.out]; omega) 0 F.1 F.2.1 F.2.2 _ (HF.out.below HE.out.drew.2.2.2.1)).mono ?_; rintro e w2 ⟨v2, rfl, ho2, hb2⟩; have E2 := Lib.hid (HE.out.drew.below hb2); have O2 := Lib.hid ho2; obtain ⟨a2, c2, rfl, _⟩ := filesAt_owned ho2; clear ho2 hb2)
            | (go_at_call 69; refine (rpass0 a a2 n c _ c2 _).mono ?_; rintro e w3 ⟨rfl, hb3⟩; have E3 := Lib.hid (E2.out.below hb3); have B3 := Lib.hid hb3; clear hb3; obtain ⟨_, _, z10, z11, y10, y11, _, _, _, _, _, _, zsz⟩ := E3.out.cells)))
          go_wp2
          have hc : beginE false g 0 name [name] = 18 := by rw [beginE, HMEM.out]; rfl
          rw [hc]
          obtain ⟨r0, r1, r2⟩ := last_cells E3.out.2.1 (.slice a n c) (.int .i64 0)
          refine bodyPost_ret (v := .tuple #[.agg #[.slice a n c, .int .i64 0], .int .i64 18]) (by simp [results, Try.results47, go_sem, r1, r2]) rfl ⟨_, rfl, ⟨l, HF.out.below (E3.out.last _ _), by rw [appendG, if_neg (by decide)]; exact HL.out, by rw [← HNL.out]; omega⟩, E3.out.last _ _⟩
        · go_region_held3 (fun W => Cells5 w W a n c left F) (first | exact HE.out.five | exact E2.out.five | exact E3.out.five | exact (E3.out.five.set _ _).set _ _) ((first
            | (go_at_call 70; refine (rwith_any (.slice a n c) l (by rw [← HNL.out]; omega) left F.1 F.2.1 F.2.2 _ (HF.out.below HE.out.drew.2.2.2.1)).mono ?_; rintro e w2 ⟨v2, rfl, ho2, hb2⟩; have E2 := Lib.hid (HE.out.drew.below hb2); have O2 := Lib.hid ho2; obtain ⟨a2, c2, rfl, _⟩ := filesAt_owned ho2; clear ho2 hb2)
            | (go_at_call 69; refine (rpass1 a a2 n c _ c2 left h1 h2 hz _).mono ?_; rintro e w3 ⟨rfl, hb3⟩; have E3 := Lib.hid (E2.out.below hb3); have B3 := Lib.hid hb3; clear hb3; obtain ⟨_, _, z10, z11, y10, y11, _, _, _, _, _, _, zsz⟩ := E3.out.cells)))
          go_wp2
          have hc : beginE false g left name [name] = 0 := by rw [beginE, HMEM.out]; simp [hz]
          rw [hc]
          obtain ⟨r0, r1, r2⟩ := last_cells E3.out.2.1 (.slice a2 (withL l F).length c2) (.int .i64 (leftE 0 left))
          have hL2 := HL.out.with F
          have hlen := withL_length l F
          refine bodyPost_ret (v := .tuple #[.agg #[.slice a2 (withL l F).length c2, .int .i64 (leftE 0 left)], .int .i64 0]) (by simp [results, Try.results47, go_sem, r1, r2]) rfl ⟨_, rfl, ⟨withL l F, filesAt_owned (owns_last (owns_below O2.out B3.out) HE.out.drew.2.2.2.2 _ _), ?_, by rw [← HNL.out] at hlen; omega⟩, E3.out.last _ _⟩
          rw [appendG, if_pos rfl, ← HFV.out]
          rw [HFF.out] at hL2
          exact HFF.out ▸ hL2
    | some v =>
      obtain ⟨vd, vs⟩ := v
      have hfv := HFV.out
      rw [hg] at hfv
      simp only [Option.getD_some, Prod.mk.injEq] at hfv
      obtain ⟨rfl, rfl⟩ := hfv
      obtain ⟨k, hk, hlk, hat⟩ := rat_some HL.out (by rw [← HNL.out]; omega) hg
      have hat := fun W h => hat (.slice a n c) left W h
      have hkn : k < n := by rw [HNL.out]; exact hk
      rcases HA.out with h0 | ⟨b1, o1, rfl, hc1⟩
      · rw [← HNL.out] at h0; omega
      have hc := hc1 k hk
      rw [hlk] at hc
      have d0 := hc 0 _ rfl
      have d1 := hc 1 _ rfl
      have d2 := hc 2 _ rfl
      simp only [Nat.add_zero] at d0 d1 d2
      have D0 := Lib.hid d0
      have D1 := Lib.hid d1
      have D2 := Lib.hid d2
      have HAT := Lib.hid hat
      clear hat hg hc1 hc d0 d1 d2 hlk hk HA
      go_enter Try.func47, Try.ntmps47
      go_upto_region 7 with (go_at_call 54; refine (HAT.out _ (HF.out.below ((((Below.refl _ _).alloc (Nat.le_refl _) _).alloc (by simp) _).alloc (by simp; omega) _))).mono ?_; rintro e w1 ⟨rfl, hb1⟩; have E1 := Lib.hid (HTH.out w1 (hb1.mono (by simp))); clear hb1; obtain ⟨c00, c01, c10, c11, f10, f11, c20, c21, c22, f20, f21, f22, hsw⟩ := E1.out.cells; simp only at c20 c21 c22; have d0 := (E1.out.2.2.2.1.cell (World.block_lt_of_cell? w _ D0.out)).trans D0.out; have d1 := (E1.out.2.2.2.1.cell (World.block_lt_of_cell? w _ D1.out)).trans D1.out; have d2 := (E1.out.2.2.2.1.cell (World.block_lt_of_cell? w _ D2.out)).trans D2.out)
      go_cut [] (fun wx => Ends w wx (some ⟨b1, o1, none⟩) n c left (name, fd ++ data, fs))
      case first =>
        go_wp2_with fail
        go_meet
        exact (((E1.out.set 0 _ (f' := (name, ⟨#[]⟩, 0)) rfl).set 1 _ (f' := (name, fd, 0)) rfl).set 2 _ (f' := (name, fd, fs)) rfl).set 1 _ rfl
      case rest =>
        clear c00 c01 c10 c11 f10 f11 c20 c21 c22 f20 f21 f22 hsw E1 d0 d1 d2
        obtain ⟨F, hF⟩ : ∃ F : RF, F = (name, fd ++ data, fs) := ⟨_, rfl⟩
        have HE := Lib.hid (show Ends w wc (some ⟨b1, o1, none⟩) n c left F by rw [hF]; exact hcut)
        obtain ⟨c00, c01, c10, c11, f10, f11, c20, c21, c22, f20, f21, f22, hsw⟩ := HE.out.cells
        have HFF := Lib.hid hF
        clear hcut hF
        go_wp2_with fail
        by_cases hz : left = 0
        · subst hz
          go_region_held3 (fun W => Cells5 w W (some ⟨b1, o1, none⟩) n c 0 F) (first | exact HE.out.five | exact E2.out.five | exact E3.out.five | exact (E3.out.five.set _ _).set _ _) ((first
            | (go_at_call 70; refine (rwith_any (.slice (some ⟨b1, o1, none⟩) n c) l (by rw [← HNL.out]; omega) 0 F.1 F.2.1 F.2.2 _ (HF.out.below HE.out.drew.2.2.2.1)).mono ?_; rintro e w2 ⟨v2, rfl, ho2, hb2⟩; have E2 := Lib.hid (HE.out.drew.below hb2); have O2 := Lib.hid ho2; obtain ⟨a2, c2, rfl, _⟩ := filesAt_owned ho2; clear ho2 hb2)
            | (go_at_call 69; refine (rpass0 (some ⟨b1, o1, none⟩) a2 n c _ c2 _).mono ?_; rintro e w3 ⟨rfl, hb3⟩; have E3 := Lib.hid (E2.out.below hb3); have B3 := Lib.hid hb3; clear hb3; obtain ⟨_, _, z10, z11, y10, y11, _, _, _, _, _, _, zsz⟩ := E3.out.cells)))
          go_wp2
          have hc : beginE false g 0 name [name] = 18 := by rw [beginE, HMEM.out]; rfl
          rw [hc]
          obtain ⟨r0, r1, r2⟩ := last_cells E3.out.2.1 (.slice (some ⟨b1, o1, none⟩) n c) (.int .i64 0)
          refine bodyPost_ret (v := .tuple #[.agg #[.slice (some ⟨b1, o1, none⟩) n c, .int .i64 0], .int .i64 18]) (by simp [results, Try.results47, go_sem, r1, r2]) rfl ⟨_, rfl, ⟨l, HF.out.below (E3.out.last _ _), by rw [appendG, if_neg (by decide)]; exact HL.out, by rw [← HNL.out]; omega⟩, E3.out.last _ _⟩
        · go_region_held3 (fun W => Cells5 w W (some ⟨b1, o1, none⟩) n c left F) (first | exact HE.out.five | exact E2.out.five | exact E3.out.five | exact (E3.out.five.set _ _).set _ _) ((first
            | (go_at_call 70; refine (rwith_any (.slice (some ⟨b1, o1, none⟩) n c) l (by rw [← HNL.out]; omega) left F.1 F.2.1 F.2.2 _ (HF.out.below HE.out.drew.2.2.2.1)).mono ?_; rintro e w2 ⟨v2, rfl, ho2, hb2⟩; have E2 := Lib.hid (HE.out.drew.below hb2); have O2 := Lib.hid ho2; obtain ⟨a2, c2, rfl, _⟩ := filesAt_owned ho2; clear ho2 hb2)
            | (go_at_call 69; refine (rpass1 (some ⟨b1, o1, none⟩) a2 n c _ c2 left h1 h2 hz _).mono ?_; rintro e w3 ⟨rfl, hb3⟩; have E3 := Lib.hid (E2.out.below hb3); have B3 := Lib.hid hb3; clear hb3; obtain ⟨_, _, z10, z11, y10, y11, _, _, _, _, _, _, zsz⟩ := E3.out.cells)))
          go_wp2
          have hc : beginE false g left name [name] = 0 := by rw [beginE, HMEM.out]; simp [hz]
          rw [hc]
          obtain ⟨r0, r1, r2⟩ := last_cells E3.out.2.1 (.slice a2 (withL l F).length c2) (.int .i64 (leftE 0 left))
          have hL2 := HL.out.with F
          have hlen := withL_length l F
          refine bodyPost_ret (v := .tuple #[.agg #[.slice a2 (withL l F).length c2, .int .i64 (leftE 0 left)], .int .i64 0]) (by simp [results, Try.results47, go_sem, r1, r2]) rfl ⟨_, rfl, ⟨withL l F, filesAt_owned (owns_last (owns_below O2.out B3.out) HE.out.drew.2.2.2.2 _ _), ?_, by rw [← HNL.out] at hlen; omega⟩, E3.out.last _ _⟩
          rw [appendG, if_pos rfl, ← HFV.out]
          rw [HFF.out] at hL2
          exact HFF.out ▸ hL2
end Go.Proofs.Ytpllcnpcplbobaa
