import Derived.Test.YtpllcnpcplbobaaRf6
namespace Go.Proofs.Ytpllcnpcplbobaa
open Go.RowKit Go.Maps
attribute [local go_sem ↓] Go.wp_at_zero Go.wp_at_succ
/-- The blocks that such a call makes for itself: the disk, the result; a file, at q. -/
def EndsQ (w W : World) (q : Nat) (a : Option Addr) (n c : Nat) (left : Int) (f : RF) : Prop :=
  W.heap[w.heap.size]? = some (.cells #[.slice a n c, .int .i64 left] 57 (0, 0)) ∧ W.heap[w.heap.size + 1]? = some (.cells #[.slice none 0 0, .int .i64 0] 57 (0, 0)) ∧
  W.heap[q]? = some (.cells #[.string f.1, .string f.2.1, .int .i64 f.2.2] 91 (0, 0)) ∧ Below w.heap.size w W ∧ w.heap.size + 2 ≤ q ∧ q < W.heap.size
def EndsD (w W : World) (a : Option Addr) (n c : Nat) (left : Int) : Prop :=
  W.heap[w.heap.size]? = some (.cells #[.slice a n c, .int .i64 left] 57 (0, 0)) ∧ W.heap[w.heap.size + 1]? = some (.cells #[.slice none 0 0, .int .i64 0] 57 (0, 0)) ∧
  Below w.heap.size w W ∧ w.heap.size + 2 ≤ W.heap.size
section
variable {w W W' : World} {q : Nat} {a : Option Addr} {n c : Nat} {left : Int} {f : RF}
theorem endsD_new (w : World) (a : Option Addr) (n c : Nat) (left : Int) (W : World) (h : Below (w.heap.size + 2) ((w.alloc (.cells #[.slice a n c, .int .i64 left] 57)).alloc (.cells #[.slice none 0 0, .int .i64 0] 57)) W) :
    EndsD w W a n c left := by
  have e1 : (w.alloc (.cells #[.slice a n c, .int .i64 left] 57)).heap.size = w.heap.size + 1 := by simp
  refine ⟨(h.block _ (by omega)).trans ((heap_alloc_old _ _ (by omega)).trans (heap_alloc_new w _)), (h.block _ (by omega)).trans (by rw [← e1]; exact heap_alloc_new _ _), (((Below.refl _ _).alloc (Nat.le_refl _) _).alloc (by omega) _).trans (h.mono (by omega)), ?_⟩
  have := h.size
  simp at this
  omega
theorem EndsD.below (h : EndsD w W a n c left) (hb : Below W.heap.size W W') : EndsD w W' a n c left := by
  obtain ⟨h0, h1, h2, h3⟩ := h
  exact ⟨(hb.block _ (by omega)).trans h0, (hb.block _ (by omega)).trans h1, h2.trans (hb.mono (by omega)), Nat.le_trans h3 hb.size⟩
theorem EndsD.drew (h : EndsD w W a n c left) : EndsD w W.drew a n c left := ⟨h.1, h.2.1, h.2.2.1.drew, h.2.2.2⟩
theorem EndsD.file (h : EndsD w W a n c left) (f : RF) : EndsQ w (W.alloc (.cells #[.string f.1, .string f.2.1, .int .i64 f.2.2] 91)) W.heap.size a n c left f := by
  obtain ⟨h0, h1, h2, h3⟩ := h
  exact ⟨(heap_alloc_old _ _ (by omega)).trans h0, (heap_alloc_old _ _ (by omega)).trans h1, heap_alloc_new _ _, h2.alloc (by omega) _, h3, by simp⟩
theorem EndsQ.toD (h : EndsQ w W q a n c left f) : EndsD w W a n c left := ⟨h.1, h.2.1, h.2.2.2.1, by have := h.2.2.2.2; omega⟩
theorem EndsQ.below (h : EndsQ w W q a n c left f) (hb : Below W.heap.size W W') : EndsQ w W' q a n c left f := by
  obtain ⟨h0, h1, h2, h3, h4, h5⟩ := h
  exact ⟨(hb.block _ (by omega)).trans h0, (hb.block _ (by omega)).trans h1, (hb.block _ (by omega)).trans h2, h3.trans (hb.mono (by omega)), h4, Nat.lt_of_lt_of_le h5 hb.size⟩
theorem EndsQ.drew (h : EndsQ w W q a n c left f) : EndsQ w W.drew q a n c left f := ⟨h.1, h.2.1, h.2.2.1, h.2.2.2.1.drew, h.2.2.2.2⟩
abbrev Cells2 (w W : World) (a : Option Addr) (n c : Nat) (left : Int) : Prop :=
  W.cell? ⟨w.heap.size, 0, none⟩ = some (.slice a n c) ∧ W.cell? ⟨w.heap.size, 1, none⟩ = some (.int .i64 left)
abbrev Cells6 (w W : World) (a : Option Addr) (n c : Nat) (left : Int) : Prop :=
  W.cell? ⟨w.heap.size, 0, none⟩ = some (.slice a n c) ∧ W.cell? ⟨w.heap.size, 1, none⟩ = some (.int .i64 left) ∧
  W.cell? ⟨w.heap.size + 1, 0, none⟩ = some (.slice none 0 0) ∧ W.cell? ⟨w.heap.size + 1, 1, none⟩ = some (.int .i64 0) ∧ W.frozen? ⟨w.heap.size + 1, 0, none⟩ = false ∧ W.frozen? ⟨w.heap.size + 1, 1, none⟩ = false
theorem EndsD.cells (h : EndsD w W a n c left) : Cells6 w W a n c left := by
  obtain ⟨c00, c01, _, _⟩ := blk2 h.1
  obtain ⟨c10, c11, f10, f11⟩ := blk2 h.2.1
  exact ⟨c00, c01, c10, c11, f10, f11⟩
theorem EndsD.two (h : EndsD w W a n c left) : Cells2 w W a n c left := ⟨h.cells.1, h.cells.2.1⟩
theorem Cells2.set (h : Cells2 w W a n c left) (i : Nat) (u : Value) : Cells2 w (W.setCell ⟨w.heap.size + 1, i, none⟩ u) a n c left :=
  ⟨(World.cell?_setCell_other _ _ _ _ (by simp)).trans h.1, (World.cell?_setCell_other _ _ _ _ (by simp)).trans h.2⟩
abbrev Cells5Q (w W : World) (q : Nat) (a : Option Addr) (n c : Nat) (left : Int) (f : RF) : Prop :=
  W.cell? ⟨w.heap.size, 0, none⟩ = some (.slice a n c) ∧ W.cell? ⟨w.heap.size, 1, none⟩ = some (.int .i64 left) ∧
  W.cell? ⟨q, 0, none⟩ = some (.string f.1) ∧ W.cell? ⟨q, 1, none⟩ = some (.string f.2.1) ∧ W.cell? ⟨q, 2, none⟩ = some (.int .i64 f.2.2)
theorem EndsQ.five (h : EndsQ w W q a n c left f) : Cells5Q w W q a n c left f := by
  obtain ⟨c20, c21, c22, _, _, _⟩ := blk3 h.2.2.1
  exact ⟨h.toD.cells.1, h.toD.cells.2.1, c20, c21, c22⟩
theorem Cells5Q.set (h : Cells5Q w W q a n c left f) (hq : w.heap.size + 2 ≤ q) (i : Nat) (u : Value) : Cells5Q w (W.setCell ⟨w.heap.size + 1, i, none⟩ u) q a n c left f := by
  obtain ⟨h0, h1, h2, h3, h4⟩ := h
  have hne : ∀ j, (⟨w.heap.size + 1, i, none⟩ : Addr) ≠ ⟨q, j, none⟩ := fun j e => by injection e with e; omega
  exact ⟨(World.cell?_setCell_other _ _ _ _ (by simp)).trans h0, (World.cell?_setCell_other _ _ _ _ (by simp)).trans h1, (World.cell?_setCell_other _ _ _ _ (hne 0)).trans h2, (World.cell?_setCell_other _ _ _ _ (hne 1)).trans h3, (World.cell?_setCell_other _ _ _ _ (hne 2)).trans h4⟩
theorem EndsD.last (h : EndsD w W a n c left) (u v : Value) : Below w.heap.size w ((W.setCell ⟨w.heap.size + 1, 0, none⟩ u).setCell ⟨w.heap.size + 1, 1, none⟩ v) :=
  h.2.2.1.trans (((Below.refl _ _).setCell (by show w.heap.size ≤ w.heap.size + 1; omega) _).setCell (by show w.heap.size ≤ w.heap.size + 1; omega) _)
end
theorem owns_last2 {w W : World} {base : Nat} {e : TypeId} {size : Nat} {v : Value} {m : Nat} {xs : List Value} (h : W.ownsRow base e size v m xs) (hb : w.heap.size + 2 ≤ base) (u u' : Value) : ((W.setCell ⟨w.heap.size + 1, 0, none⟩ u).setCell ⟨w.heap.size + 1, 1, none⟩ u').ownsRow base e size v m xs := by
  have g1 : W.grownBy (W.setCell ⟨w.heap.size + 1, 0, none⟩ u) (some (w.heap.size + 1)) := only_setCell (only_of_below (Below.refl _ _) _) (.inl rfl) _
  have g2 : W.grownBy ((W.setCell ⟨w.heap.size + 1, 0, none⟩ u).setCell ⟨w.heap.size + 1, 1, none⟩ u') (some (w.heap.size + 1)) := only_setCell g1 (.inl rfl) _
  refine h.kept g2 ?_
  cases hv : v.ownBlock with
  | none => exact .inl rfl
  | some k =>
    have := (h.lt k hv).1
    refine .inr fun e => ?_
    injection e with e
    omega
set_option maxRecDepth 100000 in
set_option maxHeartbeats 2000000 in
theorem rremove_any (va : Value) (g : FS) (N : Nat) (hN : N ≤ 1099511627775) (left : Int) (h1 : -1 ≤ left) (h2 : left ≤ 9223372036854775807) (name : ByteArray) (w : World) (hA : RefAt w va g N) :
    Calls Try.prog 51 #[.agg #[va, .int .i64 left], .string name] w fun e w' => ∃ v', e = .returned (.tuple #[.agg #[v', .int .i64 (leftE (beginE true g left name [name]) left)], .int .i64 (beginE true g left name [name])]) ∧
      RefAt w' v' (removeG (beginE true g left name [name]) g name) N ∧ Below w.heap.size w w' := by
  obtain ⟨l, hF, hL, hn⟩ := hA
  have hF2 := hF
  obtain ⟨a, c, rfl, ha⟩ := hF
  have HF := Lib.hid hF2
  have HL := Lib.hid hL
  obtain ⟨n, hnl⟩ : ∃ n, n = l.length := ⟨_, rfl⟩
  rw [← hnl] at hn HF ⊢
  have HNL := Lib.hid hnl
  clear hF2 hL ha hnl
  by_cases hne : name = ⟨#[]⟩
  · subst hne
    rw [begin_empty]
    go_enter Try.func51, Try.ntmps51
    go_wp2
    refine bodyPost_ret (v := .tuple #[.agg #[.slice a n c, .int .i64 left], .int .i64 1]) (by simp [results, Try.results51, go_sem]) rfl ⟨_, rfl, ?_, ?_⟩
    · refine RefAt.below ⟨l, HF.out, ?_, by rw [← HNL.out]; omega⟩ ((((Below.refl _ _).alloc (Nat.le_refl _) _).alloc (by simp) _))
      rw [removeG, if_neg (by decide)]; exact HL.out
    · exact (((Below.refl _ _).alloc (Nat.le_refl _) _).alloc (by simp) _)
  · have hnb := toList_isEmpty hne
    have hmem := mem_one hne
    have HMEM := Lib.hid hmem
    have HED := Lib.hid (endsD_new w a n c left)
    clear hmem hne
    cases hg : g name with
    | none =>
      have hc : beginE true g left name [name] = 10 := by rw [beginE, HMEM.out, isB, hg]; rfl
      rw [hc]
      have hat := fun W h => rat_none HL.out (by rw [← HNL.out]; omega) hg (.slice a n c) left W h
      have HAT := Lib.hid hat
      clear hat hg hc
      go_enter Try.func51, Try.ntmps51
      go_wp2_with (go_at_call 54; refine (HAT.out _ (HF.out.below (((Below.refl _ _).alloc (Nat.le_refl _) _).alloc (by simp) _))).mono ?_; rintro e w1 ⟨rfl, hb1⟩; have E1 := Lib.hid (HED.out w1 (hb1.mono (by simp))); clear hb1; obtain ⟨c00, c01, c10, c11, f10, f11⟩ := E1.out.cells)
      obtain ⟨r0, r1, r2⟩ := last_cells E1.out.2.1 (.slice a n c) (.int .i64 left)
      refine bodyPost_ret (v := .tuple #[.agg #[.slice a n c, .int .i64 left], .int .i64 10]) (by simp [results, Try.results51, go_sem, r1, r2]) rfl ⟨_, rfl, ⟨l, HF.out.below (E1.out.last _ _), by rw [removeG, if_neg (by decide)]; exact HL.out, by rw [← HNL.out]; omega⟩, E1.out.last _ _⟩
    | some v =>
      obtain ⟨vd, vs⟩ := v
      have hib : isB g name = true := by rw [isB, hg]; rfl
      obtain ⟨k, hk, hlk, hat⟩ := rat_some HL.out (by rw [← HNL.out]; omega) hg
      have hat := fun W h => hat (.slice a n c) left W h
      have HIB := Lib.hid hib
      have HAT := Lib.hid hat
      clear hat hg hlk hk hib
      by_cases hz : left = 0
      · subst hz
        have hc : beginE true g 0 name [name] = 18 := by rw [beginE, HMEM.out, HIB.out]; rfl
        rw [hc]
        clear hc
        go_enter Try.func51, Try.ntmps51
        go_upto_region 5 with (go_at_call 54; refine (HAT.out _ (HF.out.below (((Below.refl _ _).alloc (Nat.le_refl _) _).alloc (by simp) _))).mono ?_; rintro e w1 ⟨rfl, hb1⟩; have E1 := Lib.hid (HED.out w1 (hb1.mono (by simp))); clear hb1; obtain ⟨c00, c01, c10, c11, f10, f11⟩ := E1.out.cells)
        go_region_held3 (fun W => Cells2 w W a n c 0) (first | exact E1.out.two | exact E2.out.two | exact E3.out.two | exact (E3.out.two.set _ _).set _ _) ((first
          | (go_at_call 71; refine (rwithout_any (.slice a n c) l (by rw [← HNL.out]; omega) 0 name _ (HF.out.below E1.out.drew.2.2.1)).mono ?_; rintro e w2 ⟨v2, rfl, ho2, hb2⟩; have E2 := Lib.hid (E1.out.drew.below hb2); have O2 := Lib.hid ho2; obtain ⟨a2, c2, rfl, _⟩ := filesAt_owned ho2; clear ho2 hb2)
          | (go_at_call 69; refine (rpass0 a a2 n c _ c2 _).mono ?_; rintro e w3 ⟨rfl, hb3⟩; have E3 := Lib.hid (E2.out.below hb3); have B3 := Lib.hid hb3; clear hb3; obtain ⟨_, _, z10, z11, y10, y11⟩ := E3.out.cells)))
        go_wp2
        obtain ⟨r0, r1, r2⟩ := last_cells E3.out.2.1 (.slice a n c) (.int .i64 0)
        refine bodyPost_ret (v := .tuple #[.agg #[.slice a n c, .int .i64 0], .int .i64 18]) (by simp [results, Try.results51, go_sem, r1, r2]) rfl ⟨_, rfl, ⟨l, HF.out.below (E3.out.last _ _), by rw [removeG, if_neg (by decide)]; exact HL.out, by rw [← HNL.out]; omega⟩, E3.out.last _ _⟩
      · have hc : beginE true g left name [name] = 0 := by rw [beginE, HMEM.out, HIB.out]; simp [hz]
        rw [hc]
        clear hc
        have HZ := Lib.hid hz
        clear hz
        go_enter Try.func51, Try.ntmps51
        go_upto_region 5 with (go_at_call 54; refine (HAT.out _ (HF.out.below (((Below.refl _ _).alloc (Nat.le_refl _) _).alloc (by simp) _))).mono ?_; rintro e w1 ⟨rfl, hb1⟩; have E1 := Lib.hid (HED.out w1 (hb1.mono (by simp))); clear hb1; obtain ⟨c00, c01, c10, c11, f10, f11⟩ := E1.out.cells)
        go_region_held3 (fun W => Cells2 w W a n c left) (first | exact E1.out.two | exact E2.out.two | exact E3.out.two | exact (E3.out.two.set _ _).set _ _) ((first
          | (go_at_call 71; refine (rwithout_any (.slice a n c) l (by rw [← HNL.out]; omega) left name _ (HF.out.below E1.out.drew.2.2.1)).mono ?_; rintro e w2 ⟨v2, rfl, ho2, hb2⟩; have E2 := Lib.hid (E1.out.drew.below hb2); have O2 := Lib.hid ho2; obtain ⟨a2, c2, rfl, _⟩ := filesAt_owned ho2; clear ho2 hb2)
          | (go_at_call 69; refine (rpass1 a a2 n c _ c2 left h1 h2 HZ.out _).mono ?_; rintro e w3 ⟨rfl, hb3⟩; have E3 := Lib.hid (E2.out.below hb3); have B3 := Lib.hid hb3; clear hb3; obtain ⟨_, _, z10, z11, y10, y11⟩ := E3.out.cells)))
        go_wp2
        obtain ⟨r0, r1, r2⟩ := last_cells E3.out.2.1 (.slice a2 (withoutL l name).length c2) (.int .i64 (leftE 0 left))
        have hlen := withoutL_length l name
        refine bodyPost_ret (v := .tuple #[.agg #[.slice a2 (withoutL l name).length c2, .int .i64 (leftE 0 left)], .int .i64 0]) (by simp [results, Try.results51, go_sem, r1, r2]) rfl ⟨_, rfl, ⟨withoutL l name, filesAt_owned (owns_last2 (owns_below O2.out B3.out) E1.out.drew.2.2.2 _ _), by rw [removeG, if_pos rfl]; exact HL.out.without name, by rw [← HNL.out] at hlen; omega⟩, E3.out.last _ _⟩
end Go.Proofs.Ytpllcnpcplbobaa
