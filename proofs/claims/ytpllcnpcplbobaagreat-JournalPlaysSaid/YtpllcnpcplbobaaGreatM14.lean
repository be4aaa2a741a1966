import Derived.Test.YtpllcnpcplbobaaGreatM13
import Derived.Deep.RegionHeld3
import Derived.Deep.DrawnRows
section
namespace Go.Proofs.YtpllcnpcplbobaaGreat
open Go.RowKit Go.Maps
attribute [local go_sem ↓] Go.wp_at_zero Go.wp_at_succ
set_option maxRecDepth 100000 in
theorem rpass0 (a a2 : Option Addr) (n c n2 c2 : Nat) (w : World) :
    Calls Tryz.prog 45 #[.agg #[.slice a n c, .int .i64 0], .slice a2 n2 c2] w fun e w' => e = .returned (.tuple #[.agg #[.slice a n c, .int .i64 0], .int .i64 18]) ∧ Below w.heap.size w w' := by
  go_enter Tryz.func45, Tryz.ntmps45
  go_wp2
  refine bodyPost_ret (v := .tuple #[.agg #[.slice a n c, .int .i64 0], .int .i64 18]) (by simp [results, Tryz.results45, go_sem]) rfl ⟨rfl, ?_⟩
  exact (((Below.refl _ _).alloc (Nat.le_refl _) _).alloc (by simp) _)
set_option maxRecDepth 100000 in
theorem rpass1 (a a2 : Option Addr) (n c n2 c2 : Nat) (left : Int) (h1 : -1 ≤ left) (h2 : left ≤ 9223372036854775807) (h0 : left ≠ 0) (w : World) :
    Calls Tryz.prog 45 #[.agg #[.slice a n c, .int .i64 left], .slice a2 n2 c2] w fun e w' => e = .returned (.tuple #[.agg #[.slice a2 n2 c2, .int .i64 (leftE 0 left)], .int .i64 0]) ∧ Below w.heap.size w w' := by
  have hz : (left == 0) = false := by simpa using h0
  obtain ⟨lf, hlf⟩ : ∃ lf, lf = leftE 0 left := ⟨_, rfl⟩
  rw [← hlf]
  by_cases hp : 0 < left
  · have e : lf = left - 1 := by rw [hlf, leftE, if_pos ⟨rfl, hp⟩]
    subst e
    clear hlf
    go_enter Tryz.func45, Tryz.ntmps45
    go_wp2
    refine bodyPost_ret (v := .tuple #[.agg #[.slice a2 n2 c2, .int .i64 (left - 1)], .int .i64 0]) (by simp [results, Tryz.results45, go_sem]) rfl ⟨rfl, ?_⟩
    exact (((Below.refl _ _).alloc (Nat.le_refl _) _).alloc (by simp) _)
  · have e : lf = left := by rw [hlf, leftE, if_neg (fun h => hp h.2)]
    subst e
    clear hlf
    go_enter Tryz.func45, Tryz.ntmps45
    go_wp2
    refine bodyPost_ret (v := .tuple #[.agg #[.slice a2 n2 c2, .int .i64 lf], .int .i64 0]) (by simp [results, Tryz.results45, go_sem]) rfl ⟨rfl, ?_⟩
    exact (((Below.refl _ _).alloc (Nat.le_refl _) _).alloc (by simp) _)
end Go.Proofs.YtpllcnpcplbobaaGreat
end
section
namespace Go.Proofs.YtpllcnpcplbobaaGreat
open Go.RowKit Go.Maps
attribute [local go_sem ↓] Go.wp_at_zero Go.wp_at_succ
theorem blk2 {W : World} {b : Nat} {x y : Value} {t : TypeId} (h : W.heap[b]? = some (.cells #[x, y] t (0, 0))) :
    W.cell? ⟨b, 0, none⟩ = some x ∧ W.cell? ⟨b, 1, none⟩ = some y ∧ W.frozen? ⟨b, 0, none⟩ = false ∧ W.frozen? ⟨b, 1, none⟩ = false :=
  ⟨by rw [cell_of_row _ _ _ _ _ _ h]; rfl, by rw [cell_of_row _ _ _ _ _ _ h]; rfl, frozen_of_row _ _ _ _ _ h, frozen_of_row _ _ _ _ _ h⟩
theorem blk3 {W : World} {b : Nat} {x y z : Value} {t : TypeId} (h : W.heap[b]? = some (.cells #[x, y, z] t (0, 0))) :
    W.cell? ⟨b, 0, none⟩ = some x ∧ W.cell? ⟨b, 1, none⟩ = some y ∧ W.cell? ⟨b, 2, none⟩ = some z ∧ W.frozen? ⟨b, 0, none⟩ = false ∧ W.frozen? ⟨b, 1, none⟩ = false ∧ W.frozen? ⟨b, 2, none⟩ = false :=
  ⟨by rw [cell_of_row _ _ _ _ _ _ h]; rfl, by rw [cell_of_row _ _ _ _ _ _ h]; rfl, by rw [cell_of_row _ _ _ _ _ _ h]; rfl, frozen_of_row _ _ _ _ _ h, frozen_of_row _ _ _ _ _ h, frozen_of_row _ _ _ _ _ h⟩
theorem rat_none {g : FS} {l : List RF} (hl : Lists g l) (hm : l.length ≤ 1099511627776) {x : ByteArray} (hg : g x = none) (va : Value) (left : Int) (W : World) (hA : FilesAt W va l) :
    Calls Tryz.prog 44 #[.agg #[va, .int .i64 left], .string x] W fun e w' => e = .returned (.int .i64 (-1)) ∧ Below W.heap.size W w' :=
  (rat_any va l hm left x W hA).mono fun e w' ⟨⟨i, he, hi⟩, hb⟩ => by
    rcases hl.atIs hi with ⟨_, rfl⟩ | ⟨k, _, _, d, s, _, h⟩
    · exact ⟨he, hb⟩
    · rw [hg] at h; cases h
theorem rat_some {g : FS} {l : List RF} (hl : Lists g l) (hm : l.length ≤ 1099511627776) {x d : ByteArray} {s : Int} (hg : g x = some (d, s)) :
    ∃ k, ∃ hk : k < l.length, l[k] = (x, d, s) ∧ ∀ (va : Value) (left : Int) (W : World), FilesAt W va l →
    Calls Tryz.prog 44 #[.agg #[va, .int .i64 left], .string x] W fun e w' => e = .returned (.int .i64 (k : Int)) ∧ Below W.heap.size W w' := by
  obtain ⟨k, hk, e⟩ := List.getElem_of_mem ((hl.all (x, d, s)).2 hg)
  refine ⟨k, hk, e, fun va left W hA => (rat_any va l hm left x W hA).mono fun e' w' ⟨⟨i, he, hi⟩, hb⟩ => ?_⟩
  rcases hl.atIs hi with ⟨h, _⟩ | ⟨k', hk', rfl, d', s', e2, h⟩
  · rw [hg] at h; cases h
  · have : k' = k := by
      have h1 := List.pairwise_iff_getElem.1 hl.rises
      rcases Nat.lt_trichotomy k' k with h3 | h3 | h3
      · exact absurd (by rw [e, e2]) (lessB_ne (h1 k' k hk' hk h3))
      · exact h3
      · exact absurd (by rw [e, e2]) (lessB_ne (h1 k k' hk hk' h3))
    subst this
    exact ⟨he, hb⟩
theorem toList_isEmpty {x : ByteArray} (h : x ≠ ⟨#[]⟩) : x.toList.isEmpty = false := by
  rw [ByteArray.toList_eq]
  cases hx : x.data.toList.isEmpty with
  | false => rfl
  | true => exact absurd (WideShapes.bytes_inj (by simpa using hx)) h
theorem begin_empty (there : Bool) (g : FS) (left : Int) : beginE there g left ⟨#[]⟩ [⟨#[]⟩] = 1 := by
  have : memB ⟨#[]⟩ [⟨#[]⟩] = true := by decide
  rw [beginE, this]; rfl
theorem mem_one {x : ByteArray} (h : x ≠ ⟨#[]⟩) : memB ⟨#[]⟩ [x] = false := by
  cases hm : memB ⟨#[]⟩ [x] with
  | false => rfl
  | true => exact absurd (List.mem_singleton.1 (memB_iff.1 hm)).symm h
/-- Three new blocks, as they are in any later world. -/
theorem three_blocks (w : World) (o0 o1 o2 : Obj) (W : World) (h : Below (w.heap.size + 3) (((w.alloc o0).alloc o1).alloc o2) W) :
    W.heap[w.heap.size]? = some o0 ∧ W.heap[w.heap.size + 1]? = some o1 ∧ W.heap[w.heap.size + 1 + 1]? = some o2 ∧ Below w.heap.size w W ∧ w.heap.size + 3 ≤ W.heap.size := by
  have e1 : (w.alloc o0).heap.size = w.heap.size + 1 := by simp
  have e2 : ((w.alloc o0).alloc o1).heap.size = w.heap.size + 2 := by simp
  have e3 : (((w.alloc o0).alloc o1).alloc o2).heap.size = w.heap.size + 3 := by simp
  refine ⟨?_, ?_, ?_, ((((Below.refl _ _).alloc (Nat.le_refl _) _).alloc (by omega) _).alloc (by omega) _).trans (h.mono (by omega)), by have := h.size; omega⟩
  · exact (h.block _ (by omega)).trans ((heap_alloc_old _ _ (by omega)).trans ((heap_alloc_old _ _ (by omega)).trans (heap_alloc_new w _)))
  · refine (h.block _ (by omega)).trans ((heap_alloc_old _ _ (by omega)).trans ?_)
    rw [← e1]; exact heap_alloc_new _ _
  · refine (h.block _ (by omega)).trans ?_
    have e4 : w.heap.size + 1 + 1 = ((w.alloc o0).alloc o1).heap.size := by omega
    rw [e4]; exact heap_alloc_new _ _
/-- The three blocks that such a call makes for itself: the disk, the result, a file. -/
def Ends (w W : World) (a : Option Addr) (n c : Nat) (left : Int) (f : RF) : Prop :=
  W.heap[w.heap.size]? = some (.cells #[.slice a n c, .int .i64 left] 30 (0, 0)) ∧ W.heap[w.heap.size + 1]? = some (.cells #[.slice none 0 0, .int .i64 0] 30 (0, 0)) ∧
  W.heap[w.heap.size + 1 + 1]? = some (.cells #[.string f.1, .string f.2.1, .int .i64 f.2.2] 88 (0, 0)) ∧ Below w.heap.size w W ∧ w.heap.size + 3 ≤ W.heap.size
theorem ends_new (w : World) (a : Option Addr) (n c : Nat) (left : Int) (f : RF) (W : World) (h : Below (w.heap.size + 3) (((w.alloc (.cells #[.slice a n c, .int .i64 left] 30)).alloc (.cells #[.slice none 0 0, .int .i64 0] 30)).alloc (.cells #[.string f.1, .string f.2.1, .int .i64 f.2.2] 88)) W) :
    Ends w W a n c left f := by
  obtain ⟨q0, q1, q2, q3, q4⟩ := three_blocks w _ _ _ W h
  exact ⟨q0, q1, q2, q3, q4⟩
theorem Ends.below {w W W' : World} {a : Option Addr} {n c : Nat} {left : Int} {f : RF} (h : Ends w W a n c left f) (hb : Below W.heap.size W W') : Ends w W' a n c left f := by
  obtain ⟨h0, h1, h2, h3, h4⟩ := h
  exact ⟨(hb.block _ (by omega)).trans h0, (hb.block _ (by omega)).trans h1, (hb.block _ (by omega)).trans h2, h3.trans (hb.mono (by omega)), Nat.le_trans h4 hb.size⟩
theorem Ends.set {w W : World} {a : Option Addr} {n c : Nat} {left : Int} {f : RF} (h : Ends w W a n c left f) (i : Nat) (u : Value) {f' : RF}
    (hf : (#[.string f.1, .string f.2.1, .int .i64 f.2.2] : Array Value).setIfInBounds i u = #[.string f'.1, .string f'.2.1, .int .i64 f'.2.2]) : Ends w (W.setCell ⟨w.heap.size + 1 + 1, i, none⟩ u) a n c left f' := by
  obtain ⟨h0, h1, h2, h3, h4⟩ := h
  refine ⟨(heap_setCell_other _ _ _ _ (by simp; omega)).trans h0, (heap_setCell_other _ _ _ _ (by simp)).trans h1, ?_, h3.trans ((Below.refl _ _).setCell (by show w.heap.size ≤ w.heap.size + 1 + 1; omega) _), by simpa [World.setCell] using h4⟩
  rw [heap_setCell_same _ _ _ _ _ _ h2, hf]
theorem Ends.drew {w W : World} {a : Option Addr} {n c : Nat} {left : Int} {f : RF} (h : Ends w W a n c left f) : Ends w W.drew a n c left f := ⟨h.1, h.2.1, h.2.2.1, h.2.2.2.1.drew, h.2.2.2.2⟩
abbrev Cells14 (w W : World) (a : Option Addr) (n c : Nat) (left : Int) (f : RF) : Prop :=
  W.cell? ⟨w.heap.size, 0, none⟩ = some (.slice a n c) ∧ W.cell? ⟨w.heap.size, 1, none⟩ = some (.int .i64 left) ∧
  W.cell? ⟨w.heap.size + 1, 0, none⟩ = some (.slice none 0 0) ∧ W.cell? ⟨w.heap.size + 1, 1, none⟩ = some (.int .i64 0) ∧ W.frozen? ⟨w.heap.size + 1, 0, none⟩ = false ∧ W.frozen? ⟨w.heap.size + 1, 1, none⟩ = false ∧
  W.cell? ⟨w.heap.size + 1 + 1, 0, none⟩ = some (.string f.1) ∧ W.cell? ⟨w.heap.size + 1 + 1, 1, none⟩ = some (.string f.2.1) ∧ W.cell? ⟨w.heap.size + 1 + 1, 2, none⟩ = some (.int .i64 f.2.2) ∧
  W.frozen? ⟨w.heap.size + 1 + 1, 0, none⟩ = false ∧ W.frozen? ⟨w.heap.size + 1 + 1, 1, none⟩ = false ∧ W.frozen? ⟨w.heap.size + 1 + 1, 2, none⟩ = false ∧ w.heap.size + 3 ≤ W.heap.size
abbrev Cells5 (w W : World) (a : Option Addr) (n c : Nat) (left : Int) (f : RF) : Prop :=
  W.cell? ⟨w.heap.size, 0, none⟩ = some (.slice a n c) ∧ W.cell? ⟨w.heap.size, 1, none⟩ = some (.int .i64 left) ∧
  W.cell? ⟨w.heap.size + 1 + 1, 0, none⟩ = some (.string f.1) ∧ W.cell? ⟨w.heap.size + 1 + 1, 1, none⟩ = some (.string f.2.1) ∧ W.cell? ⟨w.heap.size + 1 + 1, 2, none⟩ = some (.int .i64 f.2.2)
theorem Cells5.set {w W : World} {a : Option Addr} {n c : Nat} {left : Int} {f : RF} (h : Cells5 w W a n c left f) (i : Nat) (u : Value) : Cells5 w (W.setCell ⟨w.heap.size + 1, i, none⟩ u) a n c left f := by
  obtain ⟨h0, h1, h2, h3, h4⟩ := h
  exact ⟨(World.cell?_setCell_other _ _ _ _ (by simp)).trans h0, (World.cell?_setCell_other _ _ _ _ (by simp)).trans h1, (World.cell?_setCell_other _ _ _ _ (by simp)).trans h2, (World.cell?_setCell_other _ _ _ _ (by simp)).trans h3, (World.cell?_setCell_other _ _ _ _ (by simp)).trans h4⟩
theorem Ends.cells {w W : World} {a : Option Addr} {n c : Nat} {left : Int} {f : RF} (h : Ends w W a n c left f) : Cells14 w W a n c left f := by
  obtain ⟨h0, h1, h2, h3, h4⟩ := h
  obtain ⟨c00, c01, f00, f01⟩ := blk2 h0
  obtain ⟨c10, c11, f10, f11⟩ := blk2 h1
  obtain ⟨c20, c21, c22, f20, f21, f22⟩ := blk3 h2
  exact ⟨c00, c01, c10, c11, f10, f11, c20, c21, c22, f20, f21, f22, h4⟩
theorem Ends.five {w W : World} {a : Option Addr} {n c : Nat} {left : Int} {f : RF} (h : Ends w W a n c left f) : Cells5 w W a n c left f := by
  obtain ⟨c00, c01, _, _, _, _, c20, c21, c22, _, _, _, _⟩ := h.cells
  exact ⟨c00, c01, c20, c21, c22⟩
/-- The last world: the result is written into its own block. -/
theorem Ends.last {w W : World} {a : Option Addr} {n c : Nat} {left : Int} {f : RF} (h : Ends w W a n c left f) (u v : Value) : Below w.heap.size w ((W.setCell ⟨w.heap.size + 1, 0, none⟩ u).setCell ⟨w.heap.size + 1, 1, none⟩ v) :=
  h.2.2.2.1.trans (((Below.refl _ _).setCell (by show w.heap.size ≤ w.heap.size + 1; omega) _).setCell (by show w.heap.size ≤ w.heap.size + 1; omega) _)
theorem owns_last {w W : World} {base : Nat} {e : TypeId} {size : Nat} {v : Value} {m : Nat} {xs : List Value} (h : W.ownsRow base e size v m xs) (hb : w.heap.size + 3 ≤ base) (u u' : Value) : ((W.setCell ⟨w.heap.size + 1, 0, none⟩ u).setCell ⟨w.heap.size + 1, 1, none⟩ u').ownsRow base e size v m xs := by
  have g1 : W.grownBy (W.setCell ⟨w.heap.size + 1, 0, none⟩ u) (some (w.heap.size + 1)) := only_setCell (only_of_below (Below.refl _ _) _) (.inl rfl) _
  have g2 : W.grownBy ((W.setCell ⟨w.heap.size + 1, 0, none⟩ u).setCell ⟨w.heap.size + 1, 1, none⟩ u') (some (w.heap.size + 1)) := only_setCell g1 (.inl rfl) _
  refine h.kept g2 ?_
  cases hv : v.ownBlock with
  | none => exact .inl rfl
  | some k =>
    have := (h.lt k hv).1
    refine .inr fun e => ?_
    injection e with e
    omega
theorem last_cells {W : World} {b : Nat} {x y : Value} {t : TypeId} (h : W.heap[b]? = some (.cells #[x, y] t (0, 0))) (u v : Value) :
    (W.setCell ⟨b, 0, none⟩ u).cell? ⟨b, 0, none⟩ = some u ∧ ((W.setCell ⟨b, 0, none⟩ u).setCell ⟨b, 1, none⟩ v).cell? ⟨b, 0, none⟩ = some u ∧ ((W.setCell ⟨b, 0, none⟩ u).setCell ⟨b, 1, none⟩ v).cell? ⟨b, 1, none⟩ = some v := by
  have h1 := heap_setCell_same W b 0 _ _ u h
  have h2 := heap_setCell_same _ b 1 _ _ v h1
  exact ⟨by rw [cell_of_row _ _ _ _ _ _ h1]; rfl, by rw [cell_of_row _ _ _ _ _ _ h2]; rfl, by rw [cell_of_row _ _ _ _ _ _ h2]; rfl⟩
set_option maxRecDepth 100000 in
set_option maxHeartbeats 2000000 in
theorem rappend_any (va : Value) (g : FS) (N : Nat) (hN : N ≤ 1099511627775) (left : Int) (h1 : -1 ≤ left) (h2 : left ≤ 9223372036854775807) (name data : ByteArray) (hsz : ((g name).getD noFile).1.size + data.size ≤ 1099511627776) (w : World) (hA : RefAt w va g N) :
    Calls Tryz.prog 19 #[.agg #[va, .int .i64 left], .string name, .string data] w fun e w' => ∃ v', e = .returned (.tuple #[.agg #[v', .int .i64 (leftE (beginE false g left name [name]) left)], .int .i64 (beginE false g left name [name])]) ∧
      RefAt w' v' (appendG (beginE false g left name [name]) g name data) (N + 1) ∧ Below w.heap.size w w' := by
  obtain ⟨l, hF, hL, hn⟩ := hA
  have hF2 := hF
  obtain ⟨a, c, rfl, ha⟩ := hF
  have HF := Lib.hid hF2
  have HL := Lib.hid hL
  obtain ⟨n, hnl⟩ : ∃ n, n = l.length := ⟨_, rfl⟩
  rw [← hnl] at hn HF ⊢
  have HA := Lib.hid ha
  have HNL := Lib.hid hnl
  clear hF2 hL ha hnl
  by_cases hne : name = ⟨#[]⟩
  · subst hne
    rw [begin_empty]
    go_enter Tryz.func19, Tryz.ntmps19
    go_wp2
    refine bodyPost_ret (v := .tuple #[.agg #[.slice a n c, .int .i64 left], .int .i64 1]) (by simp [results, Tryz.results19, go_sem]) rfl ⟨_, rfl, ?_, ?_⟩
    · refine RefAt.below ⟨l, HF.out, ?_, by rw [← HNL.out]; omega⟩ ((((Below.refl _ _).alloc (Nat.le_refl _) _).alloc (by simp) _))
      rw [appendG, if_neg (by decide)]; exact HL.out
    · exact (((Below.refl _ _).alloc (Nat.le_refl _) _).alloc (by simp) _)
  · have hnb := toList_isEmpty hne
    have hmem := mem_one hne
    obtain ⟨fd, fs, hfv⟩ : ∃ fd fs, (fd, fs) = (g name).getD noFile := ⟨_, _, rfl⟩
    rw [← hfv] at hsz
    simp only at hsz
    have HFV := Lib.hid hfv
    have HNE := Lib.hid hne
    have HMEM := Lib.hid hmem
    clear hfv hmem hne
    have hthree := ends_new w a n c left (name, ⟨#[]⟩, 0)
    have HTH := Lib.hid hthree
    clear hthree
    cases hg : g name with
    | none =>
      have hat := fun W h => rat_none HL.out (by rw [← HNL.out]; omega) hg (.slice a n c) left W h
      have HAT := Lib.hid hat
      have HG := Lib.hid hg
      clear hat hg
      go_enter Tryz.func19, Tryz.ntmps19
      go_upto_region 7 with (go_at_call 44; refine (HAT.out _ (HF.out.below ((((Below.refl _ _).alloc (Nat.le_refl _) _).alloc (by simp) _).alloc (by simp; omega) _))).mono ?_; rintro e w1 ⟨rfl, hb1⟩; have E1 := Lib.hid (HTH.out w1 (hb1.mono (by simp))); clear hb1)
      obtain ⟨c00, c01, c10, c11, f10, f11, c20, c21, c22, f20, f21, f22, hsw⟩ := E1.out.cells
      simp only at c20 c21 c22
      go_cut [] (fun wx => Ends w wx a n c left (name, fd ++ data, fs))
      case first =>
        go_wp2_with fail
        go_meet
        have hfv := HFV.out
        rw [HG.out] at hfv
        simp only [Option.getD_none, noFile, Prod.mk.injEq] at hfv
        refine E1.out.set 1 _ ?_
        rw [hfv.1, hfv.2]; rfl
      case rest =>
        clear c00 c01 c10 c11 f10 f11 c20 c21 c22 f20 f21 f22 hsw E1
        obtain ⟨F, hF⟩ : ∃ F : RF, F = (name, fd ++ data, fs) := ⟨_, rfl⟩
        have HE := Lib.hid (show Ends w wc a n c left F by rw [hF]; exact hcut)
        obtain ⟨c00, c01, c10, c11, f10, f11, c20, c21, c22, f20, f21, f22, hsw⟩ := HE.out.cells
        have HFF := Lib.hid hF
        clear hcut hF
        go_wp2_with fail
        by_cases hz : left = 0
        · subst hz
          go_region_held3 (fun W => Cells5 w W a n c 0 F) (first | exact HE.out.five | exact E2.out.five | exact E3.out.five | exact (E3.out.five.set _ _).set _ _) ((first
            | (go_at_call 46; refine (rwith_any (.slice a n c) l (by rw [← HNL.out]; omega) 0 F.1 F.2.1 F.2.2 _ (HF.out.below HE.out.drew.2.2.2.1)).mono ?_; rintro e w2 ⟨v2, rfl, ho2, hb2⟩; have E2 := Lib.hid (HE.out.drew.below hb2); have O2 := Lib.hid ho2; obtain ⟨a2, c2, rfl, _⟩ := filesAt_owned ho2; clear ho2 hb2)
            | (go_at_call 45; refine (rpass0 a a2 n c _ c2 _).mono ?_; rintro e w3 ⟨rfl, hb3⟩; have E3 := Lib.hid (E2.out.below hb3); have B3 := Lib.hid hb3; clear hb3; obtain ⟨_, _, z10, z11, y10, y11, _, _, _, _, _, _, zsz⟩ := E3.out.cells)))
          go_wp2
          have hc : beginE false g 0 name [name] = 18 := by rw [beginE, HMEM.out]; rfl
          rw [hc]
          obtain ⟨r0, r1, r2⟩ := last_cells E3.out.2.1 (.slice a n c) (.int .i64 0)
          refine bodyPost_ret (v := .tuple #[.agg #[.slice a n c, .int .i64 0], .int .i64 18]) (by simp [results, Tryz.results19, go_sem, r1, r2]) rfl ⟨_, rfl, ⟨l, HF.out.below (E3.out.last _ _), by rw [appendG, if_neg (by decide)]; exact HL.out, by rw [← HNL.out]; omega⟩, E3.out.last _ _⟩
        · go_region_held3 (fun W => Cells5 w W a n c left F) (first | exact HE.out.five | exact E2.out.five | exact E3.out.five | exact (E3.out.five.set _ _).set _ _) ((first
            | (go_at_call 46; refine (rwith_any (.slice a n c) l (by rw [← HNL.out]; omega) left F.1 F.2.1 F.2.2 _ (HF.out.below HE.out.drew.2.2.2.1)).mono ?_; rintro e w2 ⟨v2, rfl, ho2, hb2⟩; have E2 := Lib.hid (HE.out.drew.below hb2); have O2 := Lib.hid ho2; obtain ⟨a2, c2, rfl, _⟩ := filesAt_owned ho2; clear ho2 hb2)
            | (go_at_call 45; refine (rpass1 a a2 n c _ c2 left h1 h2 hz _).mono ?_; rintro e w3 ⟨rfl, hb3⟩; have E3 := Lib.hid (E2.out.below hb3); have B3 := Lib.hid hb3; clear hb3; obtain ⟨_, _, z10, z11, y10, y11, _, _, _, _, _, _, zsz⟩ := E3.out.cells)))
          go_wp2
          have hc : beginE false g left name [name] = 0 := by rw [beginE, HMEM.out]; simp [hz]
          rw [hc]
          obtain ⟨r0, r1, r2⟩ := last_cells E3.out.2.1 (.slice a2 (withL l F).length c2) (.int .i64 (leftE 0 left))
          have hL2 := HL.out.with F
          have hlen := withL_length l F
          refine bodyPost_ret (v := .tuple #[.agg #[.slice a2 (withL l F).length c2, .int .i64 (leftE 0 left)], .int .i64 0]) (by simp [results, Tryz.results19, go_sem, r1, r2]) rfl ⟨_, rfl, ⟨withL l F, filesAt_owned (owns_last (owns_below O2.out B3.out) HE.out.drew.2.2.2.2 _ _), ?_, by rw [← HNL.out] at hlen; omega⟩, E3.out.last _ _⟩
          rw [appendG, if_pos rfl, ← HFV.out]
          rw [HFF.out] at hL2
          exact HFF.out ▸ hL2
    | some v =>
      obtain ⟨vd, vs⟩ := v
      have hfv := HFV.out
      rw [hg] at hfv
      simp only [Option.getD_some, Prod.mk.injEq] at hfv
      obtain ⟨rfl, rfl⟩ := hfv
      obtain ⟨k, hk, hlk, hat⟩ := rat_some HL.out (by rw [← HNL.out]; omega) hg
      have hat := fun W h => hat (.slice a n c) left W h
      have hkn : k < n := by rw [HNL.out]; exact hk
      rcases HA.out with h0 | ⟨b1, o1, rfl, hc1⟩
      · rw [← HNL.out] at h0; omega
      have hc := hc1 k hk
      rw [hlk] at hc
      have d0 := hc 0 _ rfl
      have d1 := hc 1 _ rfl
      have d2 := hc 2 _ rfl
      simp only [Nat.add_zero] at d0 d1 d2
      have D0 := Lib.hid d0
      have D1 := Lib.hid d1
      have D2 := Lib.hid d2
      have HAT := Lib.hid hat
      clear hat hg hc1 hc d0 d1 d2 hlk hk HA
      go_enter Tryz.func19, Tryz.ntmps19
      go_upto_region 7 with (go_at_call 44; refine (HAT.out _ (HF.out.below ((((Below.refl _ _).alloc (Nat.le_refl _) _).alloc (by simp) _).alloc (by simp; omega) _))).mono ?_; rintro e w1 ⟨rfl, hb1⟩; have E1 := Lib.hid (HTH.out w1 (hb1.mono (by simp))); clear hb1; obtain ⟨c00, c01, c10, c11, f10, f11, c20, c21, c22, f20, f21, f22, hsw⟩ := E1.out.cells; simp only at c20 c21 c22; have d0 := (E1.out.2.2.2.1.cell (World.block_lt_of_cell? w _ D0.out)).trans D0.out; have d1 := (E1.out.2.2.2.1.cell (World.block_lt_of_cell? w _ D1.out)).trans D1.out; have d2 := (E1.out.2.2.2.1.cell (World.block_lt_of_cell? w _ D2.out)).trans D2.out)
      go_cut [] (fun wx => Ends w wx (some ⟨b1, o1, none⟩) n c left (name, fd ++ data, fs))
      case first =>
        go_wp2_with fail
        go_meet
        exact (((E1.out.set 0 _ (f' := (name, ⟨#[]⟩, 0)) rfl).set 1 _ (f' := (name, fd, 0)) rfl).set 2 _ (f' := (name, fd, fs)) rfl).set 1 _ rfl
      case rest =>
        clear c00 c01 c10 c11 f10 f11 c20 c21 c22 f20 f21 f22 hsw E1 d0 d1 d2
        obtain ⟨F, hF⟩ : ∃ F : RF, F = (name, fd ++ data, fs) := ⟨_, rfl⟩
        have HE := Lib.hid (show Ends w wc (some ⟨b1, o1, none⟩) n c left F by rw [hF]; exact hcut)
        obtain ⟨c00, c01, c10, c11, f10, f11, c20, c21, c22, f20, f21, f22, hsw⟩ := HE.out.cells
        have HFF := Lib.hid hF
        clear hcut hF
        go_wp2_with fail
        by_cases hz : left = 0
        · subst hz
          go_region_held3 (fun W => Cells5 w W (some ⟨b1, o1, none⟩) n c 0 F) (first | exact HE.out.five | exact E2.out.five | exact E3.out.five | exact (E3.out.five.set _ _).set _ _) ((first
            | (go_at_call 46; refine (rwith_any (.slice (some ⟨b1, o1, none⟩) n c) l (by rw [← HNL.out]; omega) 0 F.1 F.2.1 F.2.2 _ (HF.out.below HE.out.drew.2.2.2.1)).mono ?_; rintro e w2 ⟨v2, rfl, ho2, hb2⟩; have E2 := Lib.hid (HE.out.drew.below hb2); have O2 := Lib.hid ho2; obtain ⟨a2, c2, rfl, _⟩ := filesAt_owned ho2; clear ho2 hb2)
            | (go_at_call 45; refine (rpass0 (some ⟨b1, o1, none⟩) a2 n c _ c2 _).mono ?_; rintro e w3 ⟨rfl, hb3⟩; have E3 := Lib.hid (E2.out.below hb3); have B3 := Lib.hid hb3; clear hb3; obtain ⟨_, _, z10, z11, y10, y11, _, _, _, _, _, _, zsz⟩ := E3.out.cells)))
          go_wp2
          have hc : beginE false g 0 name [name] = 18 := by rw [beginE, HMEM.out]; rfl
          rw [hc]
          obtain ⟨r0, r1, r2⟩ := last_cells E3.out.2.1 (.slice (some ⟨b1, o1, none⟩) n c) (.int .i64 0)
          refine bodyPost_ret (v := .tuple #[.agg #[.slice (some ⟨b1, o1, none⟩) n c, .int .i64 0], .int .i64 18]) (by simp [results, Tryz.results19, go_sem, r1, r2]) rfl ⟨_, rfl, ⟨l, HF.out.below (E3.out.last _ _), by rw [appendG, if_neg (by decide)]; exact HL.out, by rw [← HNL.out]; omega⟩, E3.out.last _ _⟩
        · go_region_held3 (fun W => Cells5 w W (some ⟨b1, o1, none⟩) n c left F) (first | exact HE.out.five | exact E2.out.five | exact E3.out.five | exact (E3.out.five.set _ _).set _ _) ((first
            | (go_at_call 46; refine (rwith_any (.slice (some ⟨b1, o1, none⟩) n c) l (by rw [← HNL.out]; omega) left F.1 F.2.1 F.2.2 _ (HF.out.below HE.out.drew.2.2.2.1)).mono ?_; rintro e w2 ⟨v2, rfl, ho2, hb2⟩; have E2 := Lib.hid (HE.out.drew.below hb2); have O2 := Lib.hid ho2; obtain ⟨a2, c2, rfl, _⟩ := filesAt_owned ho2; clear ho2 hb2)
            | (go_at_call 45; refine (rpass1 (some ⟨b1, o1, none⟩) a2 n c _ c2 left h1 h2 hz _).mono ?_; rintro e w3 ⟨rfl, hb3⟩; have E3 := Lib.hid (E2.out.below hb3); have B3 := Lib.hid hb3; clear hb3; obtain ⟨_, _, z10, z11, y10, y11, _, _, _, _, _, _, zsz⟩ := E3.out.cells)))
          go_wp2
          have hc : beginE false g left name [name] = 0 := by rw [beginE, HMEM.out]; simp [hz]
          rw [hc]
          obtain ⟨r0, r1, r2⟩ := last_cells E3.out.2.1 (.slice a2 (withL l F).length c2) (.int .i64 (leftE 0 left))
          have hL2 := HL.out.with F
          have hlen := withL_length l F
          refine bodyPost_ret (v := .tuple #[.agg #[.slice a2 (withL l F).length c2, .int .i64 (leftE 0 left)], .int .i64 0]) (by simp [results, Tryz.results19, go_sem, r1, r2]) rfl ⟨_, rfl, ⟨withL l F, filesAt_owned (owns_last (owns_below O2.out B3.out) HE.out.drew.2.2.2.2 _ _), ?_, by rw [← HNL.out] at hlen; omega⟩, E3.out.last _ _⟩
          rw [appendG, if_pos rfl, ← HFV.out]
          rw [HFF.out] at hL2
          exact HFF.out ▸ hL2
end Go.Proofs.YtpllcnpcplbobaaGreat
end
section
namespace Go.Proofs.YtpllcnpcplbobaaGreat
open Go.RowKit Go.Maps
attribute [local go_sem ↓] Go.wp_at_zero Go.wp_at_succ
/-- The blocks that such a call makes for itself: the disk, the result; a file, at q. -/
def EndsQ (w W : World) (q : Nat) (a : Option Addr) (n c : Nat) (left : Int) (f : RF) : Prop :=
  W.heap[w.heap.size]? = some (.cells #[.slice a n c, .int .i64 left] 30 (0, 0)) ∧ W.heap[w.heap.size + 1]? = some (.cells #[.slice none 0 0, .int .i64 0] 30 (0, 0)) ∧
  W.heap[q]? = some (.cells #[.string f.1, .string f.2.1, .int .i64 f.2.2] 88 (0, 0)) ∧ Below w.heap.size w W ∧ w.heap.size + 2 ≤ q ∧ q < W.heap.size
def EndsD (w W : World) (a : Option Addr) (n c : Nat) (left : Int) : Prop :=
  W.heap[w.heap.size]? = some (.cells #[.slice a n c, .int .i64 left] 30 (0, 0)) ∧ W.heap[w.heap.size + 1]? = some (.cells #[.slice none 0 0, .int .i64 0] 30 (0, 0)) ∧
  Below w.heap.size w W ∧ w.heap.size + 2 ≤ W.heap.size
section
variable {w W W' : World} {q : Nat} {a : Option Addr} {n c : Nat} {left : Int} {f : RF}
theorem endsD_new (w : World) (a : Option Addr) (n c : Nat) (left : Int) (W : World) (h : Below (w.heap.size + 2) ((w.alloc (.cells #[.slice a n c, .int .i64 left] 30)).alloc (.cells #[.slice none 0 0, .int .i64 0] 30)) W) :
    EndsD w W a n c left := by
  have e1 : (w.alloc (.cells #[.slice a n c, .int .i64 left] 30)).heap.size = w.heap.size + 1 := by simp
  refine ⟨(h.block _ (by omega)).trans ((heap_alloc_old _ _ (by omega)).trans (heap_alloc_new w _)), (h.block _ (by omega)).trans (by rw [← e1]; exact heap_alloc_new _ _), (((Below.refl _ _).alloc (Nat.le_refl _) _).alloc (by omega) _).trans (h.mono (by omega)), ?_⟩
  have := h.size
  simp at this
  omega
theorem EndsD.below (h : EndsD w W a n c left) (hb : Below W.heap.size W W') : EndsD w W' a n c left := by
  obtain ⟨h0, h1, h2, h3⟩ := h
  exact ⟨(hb.block _ (by omega)).trans h0, (hb.block _ (by omega)).trans h1, h2.trans (hb.mono (by omega)), Nat.le_trans h3 hb.size⟩
theorem EndsD.drew (h : EndsD w W a n c left) : EndsD w W.drew a n c left := ⟨h.1, h.2.1, h.2.2.1.drew, h.2.2.2⟩
theorem EndsD.file (h : EndsD w W a n c left) (f : RF) : EndsQ w (W.alloc (.cells #[.string f.1, .string f.2.1, .int .i64 f.2.2] 88)) W.heap.size a n c left f := by
  obtain ⟨h0, h1, h2, h3⟩ := h
  exact ⟨(heap_alloc_old _ _ (by omega)).trans h0, (heap_alloc_old _ _ (by omega)).trans h1, heap_alloc_new _ _, h2.alloc (by omega) _, h3, by simp⟩
theorem EndsQ.toD (h : EndsQ w W q a n c left f) : EndsD w W a n c left := ⟨h.1, h.2.1, h.2.2.2.1, by have := h.2.2.2.2; omega⟩
theorem EndsQ.below (h : EndsQ w W q a n c left f) (hb : Below W.heap.size W W') : EndsQ w W' q a n c left f := by
  obtain ⟨h0, h1, h2, h3, h4, h5⟩ := h
  exact ⟨(hb.block _ (by omega)).trans h0, (hb.block _ (by omega)).trans h1, (hb.block _ (by omega)).trans h2, h3.trans (hb.mono (by omega)), h4, Nat.lt_of_lt_of_le h5 hb.size⟩
theorem EndsQ.drew (h : EndsQ w W q a n c left f) : EndsQ w W.drew q a n c left f := ⟨h.1, h.2.1, h.2.2.1, h.2.2.2.1.drew, h.2.2.2.2⟩
abbrev Cells2 (w W : World) (a : Option Addr) (n c : Nat) (left : Int) : Prop :=
  W.cell? ⟨w.heap.size, 0, none⟩ = some (.slice a n c) ∧ W.cell? ⟨w.heap.size, 1, none⟩ = some (.int .i64 left)
abbrev Cells6 (w W : World) (a : Option Addr) (n c : Nat) (left : Int) : Prop :=
  W.cell? ⟨w.heap.size, 0, none⟩ = some (.slice a n c) ∧ W.cell? ⟨w.heap.size, 1, none⟩ = some (.int .i64 left) ∧
  W.cell? ⟨w.heap.size + 1, 0, none⟩ = some (.slice none 0 0) ∧ W.cell? ⟨w.heap.size + 1, 1, none⟩ = some (.int .i64 0) ∧ W.frozen? ⟨w.heap.size + 1, 0, none⟩ = false ∧ W.frozen? ⟨w.heap.size + 1, 1, none⟩ = false
theorem EndsD.cells (h : EndsD w W a n c left) : Cells6 w W a n c left := by
  obtain ⟨c00, c01, _, _⟩ := blk2 h.1
  obtain ⟨c10, c11, f10, f11⟩ := blk2 h.2.1
  exact ⟨c00, c01, c10, c11, f10, f11⟩
theorem EndsD.two (h : EndsD w W a n c left) : Cells2 w W a n c left := ⟨h.cells.1, h.cells.2.1⟩
theorem Cells2.set (h : Cells2 w W a n c left) (i : Nat) (u : Value) : Cells2 w (W.setCell ⟨w.heap.size + 1, i, none⟩ u) a n c left :=
  ⟨(World.cell?_setCell_other _ _ _ _ (by simp)).trans h.1, (World.cell?_setCell_other _ _ _ _ (by simp)).trans h.2⟩
abbrev Cells5Q (w W : World) (q : Nat) (a : Option Addr) (n c : Nat) (left : Int) (f : RF) : Prop :=
  W.cell? ⟨w.heap.size, 0, none⟩ = some (.slice a n c) ∧ W.cell? ⟨w.heap.size, 1, none⟩ = some (.int .i64 left) ∧
  W.cell? ⟨q, 0, none⟩ = some (.string f.1) ∧ W.cell? ⟨q, 1, none⟩ = some (.string f.2.1) ∧ W.cell? ⟨q, 2, none⟩ = some (.int .i64 f.2.2)
theorem EndsQ.five (h : EndsQ w W q a n c left f) : Cells5Q w W q a n c left f := by
  obtain ⟨c20, c21, c22, _, _, _⟩ := blk3 h.2.2.1
  exact ⟨h.toD.cells.1, h.toD.cells.2.1, c20, c21, c22⟩
theorem Cells5Q.set (h : Cells5Q w W q a n c left f) (hq : w.heap.size + 2 ≤ q) (i : Nat) (u : Value) : Cells5Q w (W.setCell ⟨w.heap.size + 1, i, none⟩ u) q a n c left f := by
  obtain ⟨h0, h1, h2, h3, h4⟩ := h
  have hne : ∀ j, (⟨w.heap.size + 1, i, none⟩ : Addr) ≠ ⟨q, j, none⟩ := fun j e => by injection e with e; omega
  exact ⟨(World.cell?_setCell_other _ _ _ _ (by simp)).trans h0, (World.cell?_setCell_other _ _ _ _ (by simp)).trans h1, (World.cell?_setCell_other _ _ _ _ (hne 0)).trans h2, (World.cell?_setCell_other _ _ _ _ (hne 1)).trans h3, (World.cell?_setCell_other _ _ _ _ (hne 2)).trans h4⟩
theorem EndsD.last (h : EndsD w W a n c left) (u v : Value) : Below w.heap.size w ((W.setCell ⟨w.heap.size + 1, 0, none⟩ u).setCell ⟨w.heap.size + 1, 1, none⟩ v) :=
  h.2.2.1.trans (((Below.refl _ _).setCell (by show w.heap.size ≤ w.heap.size + 1; omega) _).setCell (by show w.heap.size ≤ w.heap.size + 1; omega) _)
end
theorem owns_last2 {w W : World} {base : Nat} {e : TypeId} {size : Nat} {v : Value} {m : Nat} {xs : List Value} (h : W.ownsRow base e size v m xs) (hb : w.heap.size + 2 ≤ base) (u u' : Value) : ((W.setCell ⟨w.heap.size + 1, 0, none⟩ u).setCell ⟨w.heap.size + 1, 1, none⟩ u').ownsRow base e size v m xs := by
  have g1 : W.grownBy (W.setCell ⟨w.heap.size + 1, 0, none⟩ u) (some (w.heap.size + 1)) := only_setCell (only_of_below (Below.refl _ _) _) (.inl rfl) _
  have g2 : W.grownBy ((W.setCell ⟨w.heap.size + 1, 0, none⟩ u).setCell ⟨w.heap.size + 1, 1, none⟩ u') (some (w.heap.size + 1)) := only_setCell g1 (.inl rfl) _
  refine h.kept g2 ?_
  cases hv : v.ownBlock with
  | none => exact .inl rfl
  | some k =>
    have := (h.lt k hv).1
    refine .inr fun e => ?_
    injection e with e
    omega
set_option maxRecDepth 100000 in
set_option maxHeartbeats 2000000 in
theorem rremove_any (va : Value) (g : FS) (N : Nat) (hN : N ≤ 1099511627775) (left : Int) (h1 : -1 ≤ left) (h2 : left ≤ 9223372036854775807) (name : ByteArray) (w : World) (hA : RefAt w va g N) :
    Calls Tryz.prog 56 #[.agg #[va, .int .i64 left], .string name] w fun e w' => ∃ v', e = .returned (.tuple #[.agg #[v', .int .i64 (leftE (beginE true g left name [name]) left)], .int .i64 (beginE true g left name [name])]) ∧
      RefAt w' v' (removeG (beginE true g left name [name]) g name) N ∧ Below w.heap.size w w' := by
  obtain ⟨l, hF, hL, hn⟩ := hA
  have hF2 := hF
  obtain ⟨a, c, rfl, ha⟩ := hF
  have HF := Lib.hid hF2
  have HL := Lib.hid hL
  obtain ⟨n, hnl⟩ : ∃ n, n = l.length := ⟨_, rfl⟩
  rw [← hnl] at hn HF ⊢
  have HNL := Lib.hid hnl
  clear hF2 hL ha hnl
  by_cases hne : name = ⟨#[]⟩
  · subst hne
    rw [begin_empty]
    go_enter Tryz.func56, Tryz.ntmps56
    go_wp2
    refine bodyPost_ret (v := .tuple #[.agg #[.slice a n c, .int .i64 left], .int .i64 1]) (by simp [results, Tryz.results56, go_sem]) rfl ⟨_, rfl, ?_, ?_⟩
    · refine RefAt.below ⟨l, HF.out, ?_, by rw [← HNL.out]; omega⟩ ((((Below.refl _ _).alloc (Nat.le_refl _) _).alloc (by simp) _))
      rw [removeG, if_neg (by decide)]; exact HL.out
    · exact (((Below.refl _ _).alloc (Nat.le_refl _) _).alloc (by simp) _)
  · have hnb := toList_isEmpty hne
    have hmem := mem_one hne
    have HMEM := Lib.hid hmem
    have HED := Lib.hid (endsD_new w a n c left)
    clear hmem hne
    cases hg : g name with
    | none =>
      have hc : beginE true g left name [name] = 10 := by rw [beginE, HMEM.out, isB, hg]; rfl
      rw [hc]
      have hat := fun W h => rat_none HL.out (by rw [← HNL.out]; omega) hg (.slice a n c) left W h
      have HAT := Lib.hid hat
      clear hat hg hc
      go_enter Tryz.func56, Tryz.ntmps56
      go_wp2_with (go_at_call 44; refine (HAT.out _ (HF.out.below (((Below.refl _ _).alloc (Nat.le_refl _) _).alloc (by simp) _))).mono ?_; rintro e w1 ⟨rfl, hb1⟩; have E1 := Lib.hid (HED.out w1 (hb1.mono (by simp))); clear hb1; obtain ⟨c00, c01, c10, c11, f10, f11⟩ := E1.out.cells)
      obtain ⟨r0, r1, r2⟩ := last_cells E1.out.2.1 (.slice a n c) (.int .i64 left)
      refine bodyPost_ret (v := .tuple #[.agg #[.slice a n c, .int .i64 left], .int .i64 10]) (by simp [results, Tryz.results56, go_sem, r1, r2]) rfl ⟨_, rfl, ⟨l, HF.out.below (E1.out.last _ _), by rw [removeG, if_neg (by decide)]; exact HL.out, by rw [← HNL.out]; omega⟩, E1.out.last _ _⟩
    | some v =>
      obtain ⟨vd, vs⟩ := v
      have hib : isB g name = true := by rw [isB, hg]; rfl
      obtain ⟨k, hk, hlk, hat⟩ := rat_some HL.out (by rw [← HNL.out]; omega) hg
      have hat := fun W h => hat (.slice a n c) left W h
      have HIB := Lib.hid hib
      have HAT := Lib.hid hat
      clear hat hg hlk hk hib
      by_cases hz : left = 0
      · subst hz
        have hc : beginE true g 0 name [name] = 18 := by rw [beginE, HMEM.out, HIB.out]; rfl
        rw [hc]
        clear hc
        go_enter Tryz.func56, Tryz.ntmps56
        go_upto_region 5 with (go_at_call 44; refine (HAT.out _ (HF.out.below (((Below.refl _ _).alloc (Nat.le_refl _) _).alloc (by simp) _))).mono ?_; rintro e w1 ⟨rfl, hb1⟩; have E1 := Lib.hid (HED.out w1 (hb1.mono (by simp))); clear hb1; obtain ⟨c00, c01, c10, c11, f10, f11⟩ := E1.out.cells)
        go_region_held3 (fun W => Cells2 w W a n c 0) (first | exact E1.out.two | exact E2.out.two | exact E3.out.two | exact (E3.out.two.set _ _).set _ _) ((first
          | (go_at_call 64; refine (rwithout_any (.slice a n c) l (by rw [← HNL.out]; omega) 0 name _ (HF.out.below E1.out.drew.2.2.1)).mono ?_; rintro e w2 ⟨v2, rfl, ho2, hb2⟩; have E2 := Lib.hid (E1.out.drew.below hb2); have O2 := Lib.hid ho2; obtain ⟨a2, c2, rfl, _⟩ := filesAt_owned ho2; clear ho2 hb2)
          | (go_at_call 45; refine (rpass0 a a2 n c _ c2 _).mono ?_; rintro e w3 ⟨rfl, hb3⟩; have E3 := Lib.hid (E2.out.below hb3); have B3 := Lib.hid hb3; clear hb3; obtain ⟨_, _, z10, z11, y10, y11⟩ := E3.out.cells)))
        go_wp2
        obtain ⟨r0, r1, r2⟩ := last_cells E3.out.2.1 (.slice a n c) (.int .i64 0)
        refine bodyPost_ret (v := .tuple #[.agg #[.slice a n c, .int .i64 0], .int .i64 18]) (by simp [results, Tryz.results56, go_sem, r1, r2]) rfl ⟨_, rfl, ⟨l, HF.out.below (E3.out.last _ _), by rw [removeG, if_neg (by decide)]; exact HL.out, by rw [← HNL.out]; omega⟩, E3.out.last _ _⟩
      · have hc : beginE true g left name [name] = 0 := by rw [beginE, HMEM.out, HIB.out]; simp [hz]
        rw [hc]
        clear hc
        have HZ := Lib.hid hz
        clear hz
        go_enter Tryz.func56, Tryz.ntmps56
        go_upto_region 5 with (go_at_call 44; refine (HAT.out _ (HF.out.below (((Below.refl _ _).alloc (Nat.le_refl _) _).alloc (by simp) _))).mono ?_; rintro e w1 ⟨rfl, hb1⟩; have E1 := Lib.hid (HED.out w1 (hb1.mono (by simp))); clear hb1; obtain ⟨c00, c01, c10, c11, f10, f11⟩ := E1.out.cells)
        go_region_held3 (fun W => Cells2 w W a n c left) (first | exact E1.out.two | exact E2.out.two | exact E3.out.two | exact (E3.out.two.set _ _).set _ _) ((first
          | (go_at_call 64; refine (rwithout_any (.slice a n c) l (by rw [← HNL.out]; omega) left name _ (HF.out.below E1.out.drew.2.2.1)).mono ?_; rintro e w2 ⟨v2, rfl, ho2, hb2⟩; have E2 := Lib.hid (E1.out.drew.below hb2); have O2 := Lib.hid ho2; obtain ⟨a2, c2, rfl, _⟩ := filesAt_owned ho2; clear ho2 hb2)
          | (go_at_call 45; refine (rpass1 a a2 n c _ c2 left h1 h2 HZ.out _).mono ?_; rintro e w3 ⟨rfl, hb3⟩; have E3 := Lib.hid (E2.out.below hb3); have B3 := Lib.hid hb3; clear hb3; obtain ⟨_, _, z10, z11, y10, y11⟩ := E3.out.cells)))
        go_wp2
        obtain ⟨r0, r1, r2⟩ := last_cells E3.out.2.1 (.slice a2 (withoutL l name).length c2) (.int .i64 (leftE 0 left))
        have hlen := withoutL_length l name
        refine bodyPost_ret (v := .tuple #[.agg #[.slice a2 (withoutL l name).length c2, .int .i64 (leftE 0 left)], .int .i64 0]) (by simp [results, Tryz.results56, go_sem, r1, r2]) rfl ⟨_, rfl, ⟨withoutL l name, filesAt_owned (owns_last2 (owns_below O2.out B3.out) E1.out.drew.2.2.2 _ _), by rw [removeG, if_pos rfl]; exact HL.out.without name, by rw [← HNL.out] at hlen; omega⟩, E3.out.last _ _⟩
end Go.Proofs.YtpllcnpcplbobaaGreat
end
section
namespace Go.Proofs.YtpllcnpcplbobaaGreat
open Go.RowKit Go.Maps
attribute [local go_sem ↓] Go.wp_at_zero Go.wp_at_succ
set_option maxRecDepth 100000 in
set_option maxHeartbeats 2000000 in
theorem rsync_any (va : Value) (g : FS) (N : Nat) (hN : N ≤ 1099511627775) (left : Int) (h1 : -1 ≤ left) (h2 : left ≤ 9223372036854775807) (name : ByteArray) (w : World) (hA : RefAt w va g N) :
    Calls Tryz.prog 38 #[.agg #[va, .int .i64 left], .string name] w fun e w' => ∃ v', e = .returned (.tuple #[.agg #[v', .int .i64 (leftE (beginE true g left name [name]) left)], .int .i64 (beginE true g left name [name])]) ∧
      RefAt w' v' (syncG (beginE true g left name [name]) g name) (N + 1) ∧ Below w.heap.size w w' := by
  obtain ⟨l, hF, hL, hn⟩ := hA
  have hF2 := hF
  obtain ⟨a, c, rfl, ha⟩ := hF
  have HF := Lib.hid hF2
  have HL := Lib.hid hL
  obtain ⟨n, hnl⟩ : ∃ n, n = l.length := ⟨_, rfl⟩
  rw [← hnl] at hn HF ⊢
  have HNL := Lib.hid hnl
  have HA := Lib.hid ha
  clear hF2 hL ha hnl
  by_cases hne : name = ⟨#[]⟩
  · subst hne
    rw [begin_empty]
    go_enter Tryz.func38, Tryz.ntmps38
    go_wp2
    refine bodyPost_ret (v := .tuple #[.agg #[.slice a n c, .int .i64 left], .int .i64 1]) (by simp [results, Tryz.results38, go_sem]) rfl ⟨_, rfl, ?_, ?_⟩
    · refine RefAt.below ⟨l, HF.out, ?_, by rw [← HNL.out]; omega⟩ ((((Below.refl _ _).alloc (Nat.le_refl _) _).alloc (by simp) _))
      rw [syncG, if_neg (by decide)]; exact HL.out
    · exact (((Below.refl _ _).alloc (Nat.le_refl _) _).alloc (by simp) _)
  · have hnb := toList_isEmpty hne
    have hmem := mem_one hne
    have HMEM := Lib.hid hmem
    have HED := Lib.hid (endsD_new w a n c left)
    clear hmem hne
    cases hg : g name with
    | none =>
      have hc : beginE true g left name [name] = 10 := by rw [beginE, HMEM.out, isB, hg]; rfl
      rw [hc]
      have hat := fun W h => rat_none HL.out (by rw [← HNL.out]; omega) hg (.slice a n c) left W h
      have HAT := Lib.hid hat
      clear hat hg hc
      go_enter Tryz.func38, Tryz.ntmps38
      go_wp2_with (go_at_call 44; refine (HAT.out _ (HF.out.below (((Below.refl _ _).alloc (Nat.le_refl _) _).alloc (by simp) _))).mono ?_; rintro e w1 ⟨rfl, hb1⟩; have E1 := Lib.hid (HED.out w1 (hb1.mono (by simp))); clear hb1; obtain ⟨c00, c01, c10, c11, f10, f11⟩ := E1.out.cells)
      obtain ⟨r0, r1, r2⟩ := last_cells E1.out.2.1 (.slice a n c) (.int .i64 left)
      refine bodyPost_ret (v := .tuple #[.agg #[.slice a n c, .int .i64 left], .int .i64 10]) (by simp [results, Tryz.results38, go_sem, r1, r2]) rfl ⟨_, rfl, ⟨l, HF.out.below (E1.out.last _ _), by rw [syncG, if_neg (by decide)]; exact HL.out, by rw [← HNL.out]; omega⟩, E1.out.last _ _⟩
    | some v =>
      obtain ⟨vd, vs⟩ := v
      have hib : isB g name = true := by rw [isB, hg]; rfl
      obtain ⟨k, hk, hlk, hat⟩ := rat_some HL.out (by rw [← HNL.out]; omega) hg
      have hat := fun W h => hat (.slice a n c) left W h
      have HIB := Lib.hid hib
      have hkn : k < n := by rw [HNL.out]; exact hk
      rcases HA.out with h0 | ⟨b1, o1, rfl, hc1⟩
      · rw [← HNL.out] at h0; omega
      have hc := hc1 k hk
      rw [hlk] at hc
      have d0 := hc 0 _ rfl
      have d1 := hc 1 _ rfl
      have d2 := hc 2 _ rfl
      simp only [Nat.add_zero] at d0 d1 d2
      have D0 := Lib.hid d0
      have D1 := Lib.hid d1
      have D2 := Lib.hid d2
      have HAT := Lib.hid hat
      have HG := Lib.hid hg
      clear hat hg hc1 hc d0 d1 d2 hlk hk HA hib
      by_cases hz : left = 0
      · subst hz
        have hc : beginE true g 0 name [name] = 18 := by rw [beginE, HMEM.out, HIB.out]; rfl
        rw [hc]
        clear hc
        go_enter Tryz.func38, Tryz.ntmps38
        go_upto_region 8 with (go_at_call 44; refine (HAT.out _ (HF.out.below (((Below.refl _ _).alloc (Nat.le_refl _) _).alloc (by simp) _))).mono ?_; rintro e w1 ⟨rfl, hb1⟩; have E1 := Lib.hid (HED.out w1 (hb1.mono (by simp))); clear hb1; obtain ⟨c00, c01, c10, c11, f10, f11⟩ := E1.out.cells; have d0 := (E1.out.2.2.1.cell (World.block_lt_of_cell? w _ D0.out)).trans D0.out; have d1 := (E1.out.2.2.1.cell (World.block_lt_of_cell? w _ D1.out)).trans D1.out; have d2 := (E1.out.2.2.1.cell (World.block_lt_of_cell? w _ D2.out)).trans D2.out)
        have EQ := Lib.hid (E1.out.file (name, vd, (vd.size : Int)))
        go_region_held3 (fun W => Cells5Q w W w1.heap.size (some ⟨b1, o1, none⟩) n c 0 (name, vd, (vd.size : Int))) (first | exact EQ.out.five | exact E2.out.five | exact E3.out.five | exact (E3.out.five.set E1.out.2.2.2 _ _).set E1.out.2.2.2 _ _) ((first
          | (go_at_call 46; refine (rwith_any (.slice (some ⟨b1, o1, none⟩) n c) l (by rw [← HNL.out]; omega) 0 name vd (vd.size : Int) _ (HF.out.below EQ.out.toD.drew.2.2.1)).mono ?_; rintro e w2 ⟨v2, rfl, ho2, hb2⟩; have E2 := Lib.hid (EQ.out.drew.below hb2); have O2 := Lib.hid ho2; obtain ⟨a2, c2, rfl, _⟩ := filesAt_owned ho2; clear ho2 hb2)
          | (go_at_call 45; refine (rpass0 (some ⟨b1, o1, none⟩) a2 n c _ c2 _).mono ?_; rintro e w3 ⟨rfl, hb3⟩; have E3 := Lib.hid (E2.out.below hb3); have B3 := Lib.hid hb3; clear hb3; obtain ⟨_, _, z10, z11, y10, y11⟩ := E3.out.toD.cells)))
        go_wp2
        obtain ⟨r0, r1, r2⟩ := last_cells E3.out.2.1 (.slice (some ⟨b1, o1, none⟩) n c) (.int .i64 0)
        refine bodyPost_ret (v := .tuple #[.agg #[.slice (some ⟨b1, o1, none⟩) n c, .int .i64 0], .int .i64 18]) (by simp [results, Tryz.results38, go_sem, r1, r2]) rfl ⟨_, rfl, ⟨l, HF.out.below (E3.out.toD.last _ _), by rw [syncG, if_neg (by decide)]; exact HL.out, by rw [← HNL.out]; omega⟩, E3.out.toD.last _ _⟩
      · have hc : beginE true g left name [name] = 0 := by rw [beginE, HMEM.out, HIB.out]; simp [hz]
        rw [hc]
        clear hc
        have HZ := Lib.hid hz
        clear hz
        go_enter Tryz.func38, Tryz.ntmps38
        go_upto_region 8 with (go_at_call 44; refine (HAT.out _ (HF.out.below (((Below.refl _ _).alloc (Nat.le_refl _) _).alloc (by simp) _))).mono ?_; rintro e w1 ⟨rfl, hb1⟩; have E1 := Lib.hid (HED.out w1 (hb1.mono (by simp))); clear hb1; obtain ⟨c00, c01, c10, c11, f10, f11⟩ := E1.out.cells; have d0 := (E1.out.2.2.1.cell (World.block_lt_of_cell? w _ D0.out)).trans D0.out; have d1 := (E1.out.2.2.1.cell (World.block_lt_of_cell? w _ D1.out)).trans D1.out; have d2 := (E1.out.2.2.1.cell (World.block_lt_of_cell? w _ D2.out)).trans D2.out)
        have EQ := Lib.hid (E1.out.file (name, vd, (vd.size : Int)))
        go_region_held3 (fun W => Cells5Q w W w1.heap.size (some ⟨b1, o1, none⟩) n c left (name, vd, (vd.size : Int))) (first | exact EQ.out.five | exact E2.out.five | exact E3.out.five | exact (E3.out.five.set E1.out.2.2.2 _ _).set E1.out.2.2.2 _ _) ((first
          | (go_at_call 46; refine (rwith_any (.slice (some ⟨b1, o1, none⟩) n c) l (by rw [← HNL.out]; omega) left name vd (vd.size : Int) _ (HF.out.below EQ.out.toD.drew.2.2.1)).mono ?_; rintro e w2 ⟨v2, rfl, ho2, hb2⟩; have E2 := Lib.hid (EQ.out.drew.below hb2); have O2 := Lib.hid ho2; obtain ⟨a2, c2, rfl, _⟩ := filesAt_owned ho2; clear ho2 hb2)
          | (go_at_call 45; refine (rpass1 (some ⟨b1, o1, none⟩) a2 n c _ c2 left h1 h2 HZ.out _).mono ?_; rintro e w3 ⟨rfl, hb3⟩; have E3 := Lib.hid (E2.out.below hb3); have B3 := Lib.hid hb3; clear hb3; obtain ⟨_, _, z10, z11, y10, y11⟩ := E3.out.toD.cells)))
        go_wp2
        obtain ⟨r0, r1, r2⟩ := last_cells E3.out.2.1 (.slice a2 (withL l (name, vd, (vd.size : Int))).length c2) (.int .i64 (leftE 0 left))
        have hlen := withL_length l (name, vd, (vd.size : Int))
        refine bodyPost_ret (v := .tuple #[.agg #[.slice a2 (withL l (name, vd, (vd.size : Int))).length c2, .int .i64 (leftE 0 left)], .int .i64 0]) (by simp [results, Tryz.results38, go_sem, r1, r2]) rfl ⟨_, rfl, ⟨withL l (name, vd, (vd.size : Int)), filesAt_owned (owns_last2 (owns_below O2.out B3.out) EQ.out.toD.drew.2.2.2 _ _), by rw [syncG, if_pos rfl, HG.out]; exact HL.out.with (name, vd, (vd.size : Int)), by rw [← HNL.out] at hlen; omega⟩, E3.out.toD.last _ _⟩
end Go.Proofs.YtpllcnpcplbobaaGreat
end
section
namespace Go.Proofs.YtpllcnpcplbobaaGreat
open Go.RowKit Go.Maps
theorem rename_lists (g : FS) (x y : ByteArray) (f : ByteArray × Int) (hg : g x = some f) : renameG 0 g x y = (g.del x).put y f := by
  rw [renameG, hg]
  by_cases hxy : x = y
  · subst hxy
    rw [if_neg (fun h => h.2 rfl)]
    funext z
    unfold FS.put FS.del
    by_cases hz : z = x
    · subst hz; simp [hg]
    · simp [hz]
  · rw [if_pos ⟨rfl, hxy⟩]
    funext z
    unfold FS.put FS.del
    by_cases hz : z = x
    · subst hz; simp [hxy]
    · simp [hz]
attribute [local go_sem ↓] Go.wp_at_zero Go.wp_at_succ
set_option maxRecDepth 100000 in
set_option maxHeartbeats 2000000 in
theorem rrename_any (va : Value) (g : FS) (N : Nat) (hN : N ≤ 1099511627775) (left : Int) (h1 : -1 ≤ left) (h2 : left ≤ 9223372036854775807) (name to_ : ByteArray) (w : World) (hA : RefAt w va g N) :
    Calls Tryz.prog 58 #[.agg #[va, .int .i64 left], .string name, .string to_] w fun e w' => ∃ v', e = .returned (.tuple #[.agg #[v', .int .i64 (leftE (beginE true g left name [name, to_]) left)], .int .i64 (beginE true g left name [name, to_])]) ∧
      RefAt w' v' (renameG (beginE true g left name [name, to_]) g name to_) (N + 1) ∧ Below w.heap.size w w' := by
  obtain ⟨l, hF, hL, hn⟩ := hA
  have hF2 := hF
  obtain ⟨a, c, rfl, ha⟩ := hF
  have HF := Lib.hid hF2
  have HL := Lib.hid hL
  obtain ⟨n, hnl⟩ : ∃ n, n = l.length := ⟨_, rfl⟩
  rw [← hnl] at hn HF ⊢
  have HNL := Lib.hid hnl
  have HA := Lib.hid ha
  clear hF2 hL ha hnl
  by_cases hne0 : name = ⟨#[]⟩ ∨ to_ = ⟨#[]⟩
  · have hc : beginE true g left name [name, to_] = 1 := by
      have : memB ⟨#[]⟩ [name, to_] = true := memB_iff.2 (by rcases hne0 with h | h <;> simp [h])
      rw [beginE, this]; rfl
    rw [hc]
    clear hc
    have hfin : ∀ W : World, Below w.heap.size w W → RefAt W (.slice a n c) (renameG 1 g name to_) (N + 1) := fun W hb => ⟨l, HF.out.below hb, by rw [renameG, if_neg (fun h => absurd h.1 (by decide))]; exact HL.out, by rw [← HNL.out]; omega⟩
    have HFIN := Lib.hid hfin
    clear hfin
    by_cases hne : name = ⟨#[]⟩
    · subst hne
      clear hne0
      go_enter Tryz.func58, Tryz.ntmps58
      go_wp2
      refine bodyPost_ret (v := .tuple #[.agg #[.slice a n c, .int .i64 left], .int .i64 1]) (by simp [results, Tryz.results58, go_sem]) rfl ⟨_, rfl, HFIN.out _ ?_, ?_⟩
      · exact (((Below.refl _ _).alloc (Nat.le_refl _) _).alloc (by simp) _)
      · exact (((Below.refl _ _).alloc (Nat.le_refl _) _).alloc (by simp) _)
    · have hto : to_ = ⟨#[]⟩ := hne0.resolve_left hne
      subst hto
      have hnb := toList_isEmpty hne
      clear hne0 hne
      go_enter Tryz.func58, Tryz.ntmps58
      go_wp2
      refine bodyPost_ret (v := .tuple #[.agg #[.slice a n c, .int .i64 left], .int .i64 1]) (by simp [results, Tryz.results58, go_sem]) rfl ⟨_, rfl, HFIN.out _ ?_, ?_⟩
      · exact (((Below.refl _ _).alloc (Nat.le_refl _) _).alloc (by simp) _)
      · exact (((Below.refl _ _).alloc (Nat.le_refl _) _).alloc (by simp) _)
  · have hne : name ≠ ⟨#[]⟩ := fun h => hne0 (.inl h)
    have hnt : to_ ≠ ⟨#[]⟩ := fun h => hne0 (.inr h)
    have hnb := toList_isEmpty hne
    have hnb2 := toList_isEmpty hnt
    have hmem : memB ⟨#[]⟩ [name, to_] = false := by
      cases hm : memB ⟨#[]⟩ [name, to_] with
      | false => rfl
      | true =>
        have := memB_iff.1 hm
        simp only [List.mem_cons, List.not_mem_nil, or_false] at this
        rcases this with h | h
        · exact absurd h.symm hne
        · exact absurd h.symm hnt
    have HMEM := Lib.hid hmem
    have HED := Lib.hid (endsD_new w a n c left)
    clear hmem hne hnt hne0
    cases hg : g name with
    | none =>
      have hc : beginE true g left name [name, to_] = 10 := by rw [beginE, HMEM.out, isB, hg]; rfl
      rw [hc]
      have hat := fun W h => rat_none HL.out (by rw [← HNL.out]; omega) hg (.slice a n c) left W h
      have HAT := Lib.hid hat
      clear hat hg hc
      go_enter Tryz.func58, Tryz.ntmps58
      go_wp2_with (go_at_call 44; refine (HAT.out _ (HF.out.below (((Below.refl _ _).alloc (Nat.le_refl _) _).alloc (by simp) _))).mono ?_; rintro e w1 ⟨rfl, hb1⟩; have E1 := Lib.hid (HED.out w1 (hb1.mono (by simp))); clear hb1; obtain ⟨c00, c01, c10, c11, f10, f11⟩ := E1.out.cells)
      obtain ⟨r0, r1, r2⟩ := last_cells E1.out.2.1 (.slice a n c) (.int .i64 left)
      refine bodyPost_ret (v := .tuple #[.agg #[.slice a n c, .int .i64 left], .int .i64 10]) (by simp [results, Tryz.results58, go_sem, r1, r2]) rfl ⟨_, rfl, ⟨l, HF.out.below (E1.out.last _ _), by rw [renameG, if_neg (fun h => absurd h.1 (by decide))]; exact HL.out, by rw [← HNL.out]; omega⟩, E1.out.last _ _⟩
    | some v =>
      obtain ⟨vd, vs⟩ := v
      have hib : isB g name = true := by rw [isB, hg]; rfl
      obtain ⟨k, hk, hlk, hat⟩ := rat_some HL.out (by rw [← HNL.out]; omega) hg
      have hat := fun W h => hat (.slice a n c) left W h
      have HIB := Lib.hid hib
      have hkn : k < n := by rw [HNL.out]; exact hk
      rcases HA.out with h0 | ⟨b1, o1, rfl, hc1⟩
      · rw [← HNL.out] at h0; omega
      have hc := hc1 k hk
      rw [hlk] at hc
      have d0 := hc 0 _ rfl
      have d1 := hc 1 _ rfl
      have d2 := hc 2 _ rfl
      simp only [Nat.add_zero] at d0 d1 d2
      have D0 := Lib.hid d0
      have D1 := Lib.hid d1
      have D2 := Lib.hid d2
      have HAT := Lib.hid hat
      have HG := Lib.hid hg
      clear hat hg hc1 hc d0 d1 d2 hlk hk HA hib
      by_cases hz : left = 0
      · subst hz
        have hc : beginE true g 0 name [name, to_] = 18 := by rw [beginE, HMEM.out, HIB.out]; rfl
        rw [hc]
        clear hc
        go_enter Tryz.func58, Tryz.ntmps58
        go_upto_region 8 with (go_at_call 44; refine (HAT.out _ (HF.out.below (((Below.refl _ _).alloc (Nat.le_refl _) _).alloc (by simp) _))).mono ?_; rintro e w1 ⟨rfl, hb1⟩; have E1 := Lib.hid (HED.out w1 (hb1.mono (by simp))); clear hb1; obtain ⟨c00, c01, c10, c11, f10, f11⟩ := E1.out.cells; have d0 := (E1.out.2.2.1.cell (World.block_lt_of_cell? w _ D0.out)).trans D0.out; have d1 := (E1.out.2.2.1.cell (World.block_lt_of_cell? w _ D1.out)).trans D1.out; have d2 := (E1.out.2.2.1.cell (World.block_lt_of_cell? w _ D2.out)).trans D2.out)
        have EQ := Lib.hid (E1.out.file (to_, vd, vs))
        go_region_held3 (fun W => Cells5Q w W w1.heap.size (some ⟨b1, o1, none⟩) n c 0 (to_, vd, vs)) (first | exact EQ.out.five | exact E5.out.five | exact E2.out.five | exact E3.out.five | exact (E3.out.five.set E1.out.2.2.2 _ _).set E1.out.2.2.2 _ _) ((first
          | (go_at_call 64; refine (rwithout_any (.slice (some ⟨b1, o1, none⟩) n c) l (by rw [← HNL.out]; omega) 0 name _ (HF.out.below EQ.out.toD.drew.2.2.1)).mono ?_; rintro e w5 ⟨v5, rfl, ho5, hb5⟩; have E5 := Lib.hid (EQ.out.drew.below hb5); have O5 := Lib.hid (filesAt_owned ho5); obtain ⟨a5, c5, rfl, _⟩ := filesAt_owned ho5; clear ho5 hb5)
          | (go_at_call 46; refine (rwith_any (.slice a5 _ c5) (withoutL l name) (by have := withoutL_length l name; rw [← HNL.out] at this; omega) 0 to_ vd vs _ O5.out).mono ?_; rintro e w2 ⟨v2, rfl, ho2, hb2⟩; have E2 := Lib.hid (E5.out.below hb2); have O2 := Lib.hid ho2; obtain ⟨a2, c2, rfl, _⟩ := filesAt_owned ho2; clear ho2 hb2)
          | (go_at_call 45; refine (rpass0 (some ⟨b1, o1, none⟩) a2 n c _ c2 _).mono ?_; rintro e w3 ⟨rfl, hb3⟩; have E3 := Lib.hid (E2.out.below hb3); have B3 := Lib.hid hb3; clear hb3; obtain ⟨_, _, z10, z11, y10, y11⟩ := E3.out.toD.cells)))
        go_wp2
        obtain ⟨r0, r1, r2⟩ := last_cells E3.out.2.1 (.slice (some ⟨b1, o1, none⟩) n c) (.int .i64 0)
        refine bodyPost_ret (v := .tuple #[.agg #[.slice (some ⟨b1, o1, none⟩) n c, .int .i64 0], .int .i64 18]) (by simp [results, Tryz.results58, go_sem, r1, r2]) rfl ⟨_, rfl, ⟨l, HF.out.below (E3.out.toD.last _ _), by rw [renameG, if_neg (fun h => absurd h.1 (by decide))]; exact HL.out, by rw [← HNL.out]; omega⟩, E3.out.toD.last _ _⟩
      · have hc : beginE true g left name [name, to_] = 0 := by rw [beginE, HMEM.out, HIB.out]; simp [hz]
        rw [hc]
        clear hc
        have HZ := Lib.hid hz
        clear hz
        go_enter Tryz.func58, Tryz.ntmps58
        go_upto_region 8 with (go_at_call 44; refine (HAT.out _ (HF.out.below (((Below.refl _ _).alloc (Nat.le_refl _) _).alloc (by simp) _))).mono ?_; rintro e w1 ⟨rfl, hb1⟩; have E1 := Lib.hid (HED.out w1 (hb1.mono (by simp))); clear hb1; obtain ⟨c00, c01, c10, c11, f10, f11⟩ := E1.out.cells; have d0 := (E1.out.2.2.1.cell (World.block_lt_of_cell? w _ D0.out)).trans D0.out; have d1 := (E1.out.2.2.1.cell (World.block_lt_of_cell? w _ D1.out)).trans D1.out; have d2 := (E1.out.2.2.1.cell (World.block_lt_of_cell? w _ D2.out)).trans D2.out)
        have EQ := Lib.hid (E1.out.file (to_, vd, vs))
        go_region_held3 (fun W => Cells5Q w W w1.heap.size (some ⟨b1, o1, none⟩) n c left (to_, vd, vs)) (first | exact EQ.out.five | exact E5.out.five | exact E2.out.five | exact E3.out.five | exact (E3.out.five.set E1.out.2.2.2 _ _).set E1.out.2.2.2 _ _) ((first
          | (go_at_call 64; refine (rwithout_any (.slice (some ⟨b1, o1, none⟩) n c) l (by rw [← HNL.out]; omega) left name _ (HF.out.below EQ.out.toD.drew.2.2.1)).mono ?_; rintro e w5 ⟨v5, rfl, ho5, hb5⟩; have E5 := Lib.hid (EQ.out.drew.below hb5); have O5 := Lib.hid (filesAt_owned ho5); obtain ⟨a5, c5, rfl, _⟩ := filesAt_owned ho5; clear ho5 hb5)
          | (go_at_call 46; refine (rwith_any (.slice a5 _ c5) (withoutL l name) (by have := withoutL_length l name; rw [← HNL.out] at this; omega) 0 to_ vd vs _ O5.out).mono ?_; rintro e w2 ⟨v2, rfl, ho2, hb2⟩; have E2 := Lib.hid (E5.out.below hb2); have O2 := Lib.hid ho2; obtain ⟨a2, c2, rfl, _⟩ := filesAt_owned ho2; clear ho2 hb2)
          | (go_at_call 45; refine (rpass1 (some ⟨b1, o1, none⟩) a2 n c _ c2 left h1 h2 HZ.out _).mono ?_; rintro e w3 ⟨rfl, hb3⟩; have E3 := Lib.hid (E2.out.below hb3); have B3 := Lib.hid hb3; clear hb3; obtain ⟨_, _, z10, z11, y10, y11⟩ := E3.out.toD.cells)))
        go_wp2
        obtain ⟨r0, r1, r2⟩ := last_cells E3.out.2.1 (.slice a2 (withL (withoutL l name) (to_, vd, vs)).length c2) (.int .i64 (leftE 0 left))
        have hlen := Nat.le_trans (withL_length (withoutL l name) (to_, vd, vs)) (Nat.succ_le_succ (withoutL_length l name))
        refine bodyPost_ret (v := .tuple #[.agg #[.slice a2 (withL (withoutL l name) (to_, vd, vs)).length c2, .int .i64 (leftE 0 left)], .int .i64 0]) (by simp [results, Tryz.results58, go_sem, r1, r2]) rfl ⟨_, rfl, ⟨withL (withoutL l name) (to_, vd, vs), filesAt_owned (owns_last2 (owns_below O2.out B3.out) E5.out.toD.2.2.2 _ _), by rw [rename_lists g name to_ _ HG.out]; exact (HL.out.without name).with (to_, vd, vs), by rw [← HNL.out] at hlen; omega⟩, E3.out.toD.last _ _⟩
end Go.Proofs.YtpllcnpcplbobaaGreat
end
section
namespace Go.Proofs.YtpllcnpcplbobaaGreat
open Go.RowKit Go.Maps
theorem owns_nil1 (w : World) (base m : Nat) (hm : w.heap.size = m) (hb : base ≤ m) (e : TypeId) : (w.alloc (.cells #[] e)).ownsRow base e 1 (.slice (some ⟨m, 0, none⟩) 0 0) 0 [] := by
  subst hm
  exact ⟨rfl, .inr ⟨w.heap.size, 0, #[], rfl, hb, heap_alloc_new _ _, Nat.le_refl _, by decide, rfl, rfl⟩⟩
set_option maxRecDepth 100000 in
theorem rnew_any (w : World) : Calls Tryz.prog 7 #[] w fun e w' => e = .returned (.agg #[.slice none 0 0, .int .i64 (-1)]) ∧ Below w.heap.size w w' := by
  go_enter Tryz.func7, Tryz.ntmps7
  go_wp2
  exact bodyPost_ret (v := .agg #[.slice none 0 0, .int .i64 (-1)]) (by simp [results, Tryz.results7, go_sem]) rfl ⟨rfl, (Below.refl _ _).alloc (Nat.le_refl _) _⟩
set_option maxRecDepth 100000 in
set_option maxHeartbeats 1000000 in
theorem rread_any (va : Value) (g : FS) (N : Nat) (hN : N ≤ 1099511627775) (left : Int) (name : ByteArray) (w : World) (hA : RefAt w va g N) :
    Calls Tryz.prog 31 #[.agg #[va, .int .i64 left], .string name] w fun e w' => e = .returned (readV g name) ∧ Below w.heap.size w w' := by
  obtain ⟨l, hF, hL, hn⟩ := hA
  have hF2 := hF
  obtain ⟨a, c, rfl, ha⟩ := hF
  have HF := Lib.hid hF2
  have HL := Lib.hid hL
  obtain ⟨n, hnl⟩ : ∃ n, n = l.length := ⟨_, rfl⟩
  rw [← hnl] at hn HF ⊢
  have HNL := Lib.hid hnl
  have HA := Lib.hid ha
  clear hF2 hL ha hnl
  cases hg : g name with
  | none =>
    have he : readV g name = .tuple #[.string ⟨#[]⟩, .int .i64 10] := by rw [readV, hg]
    have hat := fun W h => rat_none HL.out (by rw [← HNL.out]; omega) hg (.slice a n c) left W h
    have HAT := Lib.hid hat
    rw [he]
    clear hat hg he
    go_enter Tryz.func31, Tryz.ntmps31
    go_wp2_with (go_at_call 44; refine (HAT.out _ (HF.out.below ((Below.refl _ _).alloc (Nat.le_refl _) _))).mono ?_; rintro e w1 ⟨rfl, hb1⟩)
    go_ret2
    exact ⟨rfl, ((Below.refl _ _).alloc (Nat.le_refl _) _).trans (hb1.mono (by simp))⟩
  | some v =>
    obtain ⟨vd, vs⟩ := v
    have he : readV g name = .tuple #[.string vd, .int .i64 0] := by rw [readV, hg]
    rw [he]
    obtain ⟨k, hk, hlk, hat⟩ := rat_some HL.out (by rw [← HNL.out]; omega) hg
    have hat := fun W h => hat (.slice a n c) left W h
    have hkn : k < n := by rw [HNL.out]; exact hk
    rcases HA.out with h0 | ⟨b1, o1, rfl, hc1⟩
    · rw [← HNL.out] at h0; omega
    have hc := hc1 k hk
    rw [hlk] at hc
    have d1 := hc 1 _ rfl
    have hx0 : ∀ W : World, Below (w.alloc (.cells #[.slice (some ⟨b1, o1, none⟩) n c, .int .i64 left] 30)).heap.size (w.alloc (.cells #[.slice (some ⟨b1, o1, none⟩) n c, .int .i64 left] 30)) W → Below w.heap.size w W ∧ W.cell? ⟨w.heap.size, 0, none⟩ = some (.slice (some ⟨b1, o1, none⟩) n c) := fun W hW =>
      ⟨((Below.refl _ _).alloc (Nat.le_refl _) _).trans (hW.mono (by simp)), (hW.cell (by simp)).trans (by rw [cell_of_row _ _ _ _ _ _ (heap_alloc_new w _)]; rfl)⟩
    have D1 := Lib.hid d1
    have HX := Lib.hid hx0
    have HAT := Lib.hid hat
    clear hat hg hc1 hc d1 hlk hk HA he hx0
    go_enter Tryz.func31, Tryz.ntmps31
    go_wp2_with (go_at_call 44; refine (HAT.out _ (HF.out.below ((Below.refl _ _).alloc (Nat.le_refl _) _))).mono ?_; rintro e w1 ⟨rfl, hb1⟩; obtain ⟨hb, c0⟩ := HX.out w1 hb1; have d1 := (hb.cell (World.block_lt_of_cell? w _ D1.out)).trans D1.out; have HB := Lib.hid hb; clear hb hb1)
    go_ret2
    exact ⟨rfl, HB.out⟩
set_option maxRecDepth 100000 in
theorem rbudget_any (va : Value) (g : FS) (N : Nat) (left m : Int) (w : World) (hA : RefAt w va g N) :
    Calls Tryz.prog 15 #[.agg #[va, .int .i64 left], .int .i64 m] w fun e w' => e = .returned (.agg #[va, .int .i64 (max m (-1))]) ∧ Below w.heap.size w w' := by
  obtain ⟨l, ⟨a, c, rfl, _⟩, _, _⟩ := hA
  obtain ⟨q, hq⟩ : ∃ q, q = max m (-1) := ⟨_, rfl⟩
  rw [← hq]
  by_cases h : m < 0
  · have : q = -1 := by omega
    subst this
    clear hq
    go_enter Tryz.func15, Tryz.ntmps15
    go_wp2
    exact bodyPost_ret (v := .agg #[.slice a l.length c, .int .i64 (-1)]) (by simp [results, Tryz.results15, go_sem]) rfl ⟨rfl, ((Below.refl _ _).alloc (Nat.le_refl _) _).alloc (by simp) _⟩
  · have : q = m := by omega
    subst this
    clear hq
    go_enter Tryz.func15, Tryz.ntmps15
    go_wp2
    exact bodyPost_ret (v := .agg #[.slice a l.length c, .int .i64 q]) (by simp [results, Tryz.results15, go_sem]) rfl ⟨rfl, ((Below.refl _ _).alloc (Nat.le_refl _) _).alloc (by simp) _⟩
set_option maxRecDepth 100000 in
set_option maxHeartbeats 1000000 in
theorem rnames_any (va : Value) (l : List RF) (hm : l.length ≤ 1099511627776) (left : Int) (w : World) (hA : FilesAt w va l) :
    Calls Tryz.prog 47 #[.agg #[va, .int .i64 left]] w fun e w' => ∃ v, e = .returned v ∧ w'.ownsRow w.heap.size 9 1 v (l.map (·.1)).length (strs (l.map (·.1))) ∧ Below w.heap.size w w' := by
  obtain ⟨i0, hi, hz0, hz1, hz2⟩ := info_parts infoStr
  obtain ⟨a, ca, rfl, ha⟩ := hA
  obtain ⟨n, hn⟩ : ∃ n, n = l.length := ⟨_, rfl⟩
  rw [← hn] at hm ⊢
  have HA := Lib.hid ha
  have HN := Lib.hid hn
  have HI := Lib.hid hi
  have HZ0 := Lib.hid hz0
  have HZ1 := Lib.hid hz1
  have HZ2 := Lib.hid hz2
  clear ha hn hi hz0 hz1 hz2
  go_enter Tryz.func47, Tryz.ntmps47
  go_wp2_with fail
  go_loopw [3, 10] (fun v i wr => ∃ (k : Nat) (acc : List ByteArray), k ≤ n ∧ i = .int .i64 k ∧ acc = (l.take k).map (·.1) ∧ acc.length ≤ k ∧ wr.ownsRow w.heap.size 9 1 v acc.length (strs acc) ∧ Below w.heap.size w wr) (fun _ i _ => n - (intOf i).toNat)
  case atStart => exact ⟨0, [], by omega, rfl, rfl, by simp, owns_nil1 _ _ _ (by simp) (by omega) _, ((Below.refl _ _).alloc (Nat.le_refl _) _).alloc (by simp) _⟩
  case round =>
    obtain ⟨k, acc, hk, rfl, hacc, hal, hown, hbel⟩ := hrel
    by_cases hlt : k < n
    · have hAk : k < l.length := by rw [← HN.out]; exact hlt
      rcases HA.out with h0 | ⟨b1, o1, rfl, hc1⟩
      · omega
      have hts : (l.take (k + 1)).map (·.1) = acc ++ [(l[k]).1] := by rw [List.take_succ_eq_append_getElem hAk, List.map_append, hacc]; rfl
      obtain ⟨f, hf⟩ : ∃ f, f = l[k] := ⟨_, rfl⟩
      have hc := hc1 k hAk
      rw [← hf] at hc hts
      obtain ⟨fn, fd, fs⟩ := f
      have d0 := hc 0 _ rfl
      have d1 := hc 1 _ rfl
      have d2 := hc 2 _ rfl
      simp only [Nat.add_zero] at d0 d1 d2
      replace d0 := (hbel.cell (World.block_lt_of_cell? w _ d0)).trans d0
      replace d1 := (hbel.cell (World.block_lt_of_cell? w _ d1)).trans d1
      replace d2 := (hbel.cell (World.block_lt_of_cell? w _ d2)).trans d2
      have HO := Lib.hid hown
      have HB := Lib.hid hbel
      have HAL := Lib.hid hal
      have HTS := Lib.hid hts
      have hbase := hbel.size
      clear hc1 hc HA hf hbel hacc hal hown hts
      go_wp2_with (at_builtin; go_must (refine wpList_append_own_at _ rfl _ _ 34 rfl w.heap.size 9 i0 (.string ⟨#[]⟩) 1 16 Tryz.underlying34 HI.out HZ0.out HZ1.out HZ2.out rfl (by omega) _ acc.length (strs acc) rfl ((HO.out.alloc _).alloc _) ⟨_, 0, none⟩ 1 1 [.string fn] rfl rfl (World.news_of_block (heap_alloc2_new _ _ _)) (by simp [Value.oneCell']) ?g1 ?g2 ?g3 ?g4))
      case g1 => have := HAL.out; simp only [maxLen]; omega
      case g2 => have := HAL.out; omega
      case g3 => omega
      intro v' w' hown' hgrow' _ _
      go_wp2
      go_roundw
      case measure => simp [intOf]; omega
      case rel =>
        refine ⟨k + 1, acc ++ [fn], by omega, by go_num, HTS.out.symm, by have := HAL.out; simp; omega, ?_, ?_⟩
        · simpa [strs] using hown'
        · exact below_grow ((HB.out.alloc HB.out.size _).alloc (by simp; omega) _) hgrow' (fun g e => (HO.out.lt g e).1) (by simp; omega)
    · have hkn : l.take k = l := List.take_of_length_le (by rw [← HN.out]; omega)
      rw [hkn] at hacc
      have HO := Lib.hid hown
      have HB := Lib.hid hbel
      have HAC := Lib.hid hacc
      clear hkn hacc hown hbel hal
      go_wp2
      go_ret
      exact ⟨_, rfl, by rw [← HAC.out]; exact HO.out, HB.out⟩
end Go.Proofs.YtpllcnpcplbobaaGreat
end
