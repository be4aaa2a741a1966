import Derived.Test.YtpllcnpcplbobaaGreatM12
import Derived.WalkLawsBesides
import Derived.Sort.Walk0
section
namespace Go.Proofs.YtpllcnpcplbobaaGreat
open Go.RowKit Go.Maps
/-! The reference's disk: a list of files: name, bytes, how many are sure. -/
abbrev RF := ByteArray × ByteArray × Int
def RF.cells (f : RF) : List Value := [.string f.1, .string f.2.1, .int .i64 f.2.2]
def rcells (l : List RF) : List Value := l.flatMap RF.cells
theorem rcells_nil : rcells [] = [] := rfl
theorem rcells_snoc (l : List RF) (f : RF) : rcells (l ++ [f]) = rcells l ++ f.cells := by simp [rcells]
theorem rcells_cons (l : List RF) (f : RF) : rcells (f :: l) = f.cells ++ rcells l := by simp [rcells]
theorem length_rcells : ∀ l : List RF, (rcells l).length = l.length * 3
  | [] => rfl
  | f :: l => by rw [rcells_cons, List.length_append, length_rcells l]; simp [RF.cells]; omega
theorem rcells_get : ∀ (l : List RF) (i : Nat) (h : i < l.length) (j : Nat), j < 3 → (rcells l)[i * 3 + j]? = (l[i]).cells[j]?
  | f :: l, 0, _, j, hj => by
    rw [rcells_cons, List.getElem?_append_left (by simp [RF.cells]; omega)]
    simp
  | f :: l, i + 1, h, j, hj => by
    have h' : i < l.length := by simpa using h
    rw [rcells_cons, List.getElem?_append_right (by simp [RF.cells]; omega)]
    have e : (i + 1) * 3 + j - f.cells.length = i * 3 + j := by simp [RF.cells]; omega
    rw [e, rcells_get l i h' j hj]
    simp
/-- A slice of files, as it can be read. -/
def FilesAt (w : World) (v : Value) (l : List RF) : Prop :=
  ∃ (a : Option Addr) (c : Nat), v = .slice a l.length c ∧ (l.length = 0 ∨ ∃ b o, a = some ⟨b, o, none⟩ ∧ ∀ i (h : i < l.length) j u, (l[i]).cells[j]? = some u → w.cell? ⟨b, o + i * 3 + j, none⟩ = some u)
theorem FilesAt.below {w w' : World} {v : Value} {l : List RF} (h : FilesAt w v l) (hb : Below w.heap.size w w') : FilesAt w' v l := by
  obtain ⟨a, c, hv, h0 | ⟨b, o, ha, hc⟩⟩ := h
  · exact ⟨a, c, hv, .inl h0⟩
  · exact ⟨a, c, hv, .inr ⟨b, o, ha, fun i hi j u hu => (hb.cell (World.block_lt_of_cell? w _ (hc i hi j u hu))).trans (hc i hi j u hu)⟩⟩
theorem filesAt_nil (w : World) : FilesAt w (.slice none 0 0) [] := ⟨none, 0, rfl, .inl rfl⟩
theorem filesAt_owned {w : World} {base : Nat} {v : Value} {l : List RF} (h : w.ownsRow base 88 3 v l.length (rcells l)) : FilesAt w v l := by
  by_cases h0 : l.length = 0
  · rcases h.2 with ⟨rfl, _⟩ | ⟨g, cap, cur, rfl, _⟩
    · exact ⟨none, 0, by rw [h0], .inl h0⟩
    · exact ⟨_, cap, rfl, .inl h0⟩
  · obtain ⟨g, cap, rfl, _, _⟩ := World.ownsRow.form h (by omega)
    refine ⟨_, cap, rfl, .inr ⟨g, 0, rfl, fun i hi j u hu => ?_⟩⟩
    have hj : j < 3 := by have := (List.getElem?_eq_some_iff.1 hu).1; simpa [RF.cells] using this
    have h1 := h.cells (g := g) rfl (i * 3 + j) u (by rw [rcells_get l i hi j hj]; exact hu)
    rw [Addr.add_lit] at h1
    rw [Nat.zero_add] at h1 ⊢
    exact h1
theorem infoFile : (Tryz.prog.info? 88).map (fun i => (i.zero, i.size, i.bytes)) = some (some (.agg #[.string ⟨#[]⟩, .string ⟨#[]⟩, .int .i64 0]), 3, 40) := by kernel_rfl
theorem rf_one (f : RF) : ∀ u ∈ f.cells, u.oneCell' = true := by
  intro u hu
  simp only [RF.cells, List.mem_cons, List.not_mem_nil, or_false] at hu
  rcases hu with rfl | rfl | rfl <;> rfl
/-- The place of a file; -1: there is none. -/
def AtIs (l : List RF) (x : ByteArray) (i : Int) : Prop :=
  (i = -1 ∧ ∀ j (h : j < l.length), (l[j]).1 ≠ x) ∨ ∃ k, ∃ h : k < l.length, i = (k : Int) ∧ (l[k]).1 = x ∧ ∀ j (hj : j < k), (l[j]'(by omega)).1 ≠ x
set_option maxRecDepth 100000 in
set_option maxHeartbeats 1000000 in
theorem rat_any (va : Value) (l : List RF) (hm : l.length ≤ 1099511627776) (left : Int) (x : ByteArray) (w : World) (hA : FilesAt w va l) :
    Calls Tryz.prog 44 #[.agg #[va, .int .i64 left], .string x] w fun e w' => (∃ i : Int, e = .returned (.int .i64 i) ∧ AtIs l x i) ∧ Below w.heap.size w w' := by
  obtain ⟨a, ca, rfl, ha⟩ := hA
  obtain ⟨n, hn⟩ : ∃ n, n = l.length := ⟨_, rfl⟩
  rw [← hn] at hm ⊢
  have HA := Lib.hid ha
  have HN := Lib.hid hn
  clear ha hn
  go_enter Tryz.func44, Tryz.ntmps44
  go_wp2_with fail
  go_loopw [10] (fun i wr => ∃ k : Nat, k ≤ n ∧ i = .int .i64 k ∧ (∀ j (h : j < k) (h2 : j < l.length), (l[j]).1 ≠ x) ∧ Below w.heap.size w wr) (fun i _ => n - (intOf i).toNat)
  case atStart => exact ⟨0, by omega, rfl, fun j hj => by omega, (Below.refl _ _).alloc (Nat.le_refl _) _⟩
  case round =>
    obtain ⟨k, hk, rfl, hno, hbel⟩ := hrel
    by_cases hlt : k < n
    · have hAk : k < l.length := by rw [← HN.out]; exact hlt
      rcases HA.out with h0 | ⟨b1, o1, rfl, hc1⟩
      · omega
      obtain ⟨f, hf⟩ : ∃ f, f = l[k] := ⟨_, rfl⟩
      have hc := hc1 k hAk
      rw [← hf] at hc
      obtain ⟨fn, fd, fs⟩ := f
      have d0 := hc 0 _ rfl
      have d1 := hc 1 _ rfl
      have d2 := hc 2 _ rfl
      simp only [Nat.add_zero] at d0 d1 d2
      replace d0 := (hbel.cell (World.block_lt_of_cell? w _ d0)).trans d0
      replace d1 := (hbel.cell (World.block_lt_of_cell? w _ d1)).trans d1
      replace d2 := (hbel.cell (World.block_lt_of_cell? w _ d2)).trans d2
      have HNO := Lib.hid hno
      have HF := Lib.hid hf
      have HB := Lib.hid hbel
      clear hno hc1 hc HA hf hbel
      by_cases hxy : fn = x
      · have ht : (fn.toList == x.toList) = true := by rw [text_beq]; exact decide_eq_true hxy
        have HXY := Lib.hid hxy
        clear hxy
        go_wp2
        go_ret
        exact ⟨⟨_, rfl, .inr ⟨k, hAk, rfl, by rw [← HF.out]; exact HXY.out, fun j hj => HNO.out j hj (by omega)⟩⟩, HB.out.alloc HB.out.size _⟩
      · have ht : (fn.toList == x.toList) = false := by rw [text_beq]; exact decide_eq_false hxy
        have HXY := Lib.hid hxy
        clear hxy
        go_wp2
        go_roundw
        case measure => simp [intOf]; omega
        case rel =>
          refine ⟨k + 1, by omega, by go_num, fun j hj h2 => ?_, HB.out.alloc HB.out.size _⟩
          by_cases hjk : j < k
          · exact HNO.out j hjk h2
          · obtain rfl : j = k := by omega
            rw [← HF.out]; exact HXY.out
    · have HNO := Lib.hid hno
      have HB := Lib.hid hbel
      clear hno hbel
      go_wp2
      go_ret
      exact ⟨⟨-1, rfl, .inl ⟨rfl, fun j hj => HNO.out j (by have := HN.out; omega) hj⟩⟩, HB.out⟩
end Go.Proofs.YtpllcnpcplbobaaGreat
end
section
namespace Go.Proofs.YtpllcnpcplbobaaGreat
open Go.RowKit Go.Maps
def lessB (a b : ByteArray) : Bool := Op.bytesLess a.toList b.toList
theorem lessB_eq (a b : ByteArray) : lessB a b = decide (a.data.toList < b.data.toList) := by
  rw [lessB, bytesLess_eq, ByteArray.toList_eq, ByteArray.toList_eq]
theorem gtB (f x : ByteArray) : (!(Op.bytesLess f.toList x.toList || f.toList == x.toList)) = lessB x f := by
  rw [text_beq, show Op.bytesLess f.toList x.toList = lessB f x from rfl, lessB_eq, lessB_eq]
  by_cases h1 : f.data.toList < x.data.toList
  · have h2 : ¬ x.data.toList < f.data.toList := List.lt_asymm h1
    simp [h1, h2]
  · by_cases h2 : x.data.toList < f.data.toList
    · have h3 : f ≠ x := fun e => by rw [e] at h2; exact List.lt_irrefl _ h2
      simp [h1, h2, h3]
    · have h3 : f = x := WideShapes.bytes_inj (List.le_antisymm h2 h1)
      simp [h3]
def withoutL (l : List RF) (x : ByteArray) : List RF := l.filter fun f => !decide (f.1 = x)
def lowL (l : List RF) (x : ByteArray) : List RF := l.filter fun f => lessB f.1 x
def highL (l : List RF) (x : ByteArray) : List RF := l.filter fun f => lessB x f.1
def withL (l : List RF) (f : RF) : List RF := lowL l f.1 ++ [f] ++ highL l f.1
theorem filter_take_succ {α : Type} (p : α → Bool) (l : List α) (k : Nat) (h : k < l.length) : (l.take (k + 1)).filter p = (l.take k).filter p ++ if p l[k] then [l[k]] else [] := by
  rw [List.take_succ_eq_append_getElem h, List.filter_append]
  congr 1
  by_cases hp : p l[k] <;> simp [hp]
theorem owns_nil3 (w : World) (base m : Nat) (hm : w.heap.size = m) (hb : base ≤ m) (e : TypeId) : (w.alloc (.cells #[] e)).ownsRow base e 3 (.slice (some ⟨m, 0, none⟩) 0 0) 0 [] := by
  subst hm
  exact ⟨rfl, .inr ⟨w.heap.size, 0, #[], rfl, hb, heap_alloc_new _ _, Nat.le_refl _, by decide, rfl, rfl⟩⟩
set_option maxRecDepth 100000 in
set_option maxHeartbeats 1000000 in
theorem rwithout_any (va : Value) (l : List RF) (hm : l.length ≤ 1099511627776) (left : Int) (x : ByteArray) (w : World) (hA : FilesAt w va l) :
    Calls Tryz.prog 64 #[.agg #[va, .int .i64 left], .string x] w fun e w' => ∃ v, e = .returned v ∧ w'.ownsRow w.heap.size 88 3 v (withoutL l x).length (rcells (withoutL l x)) ∧ Below w.heap.size w w' := by
  obtain ⟨i0, hi, hz0, hz1, hz2⟩ := info_parts infoFile
  obtain ⟨a, ca, rfl, ha⟩ := hA
  obtain ⟨n, hn⟩ : ∃ n, n = l.length := ⟨_, rfl⟩
  rw [← hn] at hm ⊢
  have HA := Lib.hid ha
  have HN := Lib.hid hn
  have HI := Lib.hid hi
  have HZ0 := Lib.hid hz0
  have HZ1 := Lib.hid hz1
  have HZ2 := Lib.hid hz2
  clear ha hn hi hz0 hz1 hz2
  go_enter Tryz.func64, Tryz.ntmps64
  go_wp2_with fail
  go_loopw [5, 12] (fun v i wr => ∃ (k : Nat) (acc : List RF), k ≤ n ∧ i = .int .i64 k ∧ acc = withoutL (l.take k) x ∧ acc.length ≤ k ∧ wr.ownsRow w.heap.size 88 3 v acc.length (rcells acc) ∧ Below w.heap.size w wr) (fun _ i _ => n - (intOf i).toNat)
  case atStart => exact ⟨0, [], by omega, rfl, rfl, by simp, (owns_nil3 _ _ _ (by simp) (by omega) _), ((Below.refl _ _).alloc (Nat.le_refl _) _).alloc (by simp) _⟩
  case round =>
    obtain ⟨k, acc, hk, rfl, hacc, hal, hown, hbel⟩ := hrel
    by_cases hlt : k < n
    · have hAk : k < l.length := by rw [← HN.out]; exact hlt
      rcases HA.out with h0 | ⟨b1, o1, rfl, hc1⟩
      · omega
      have hts := filter_take_succ (fun f : RF => !decide (f.1 = x)) l k hAk
      obtain ⟨f, hf⟩ : ∃ f, f = l[k] := ⟨_, rfl⟩
      have hc := hc1 k hAk
      rw [← hf] at hc hts
      obtain ⟨fn, fd, fs⟩ := f
      have d0 := hc 0 _ rfl
      have d1 := hc 1 _ rfl
      have d2 := hc 2 _ rfl
      simp only [Nat.add_zero] at d0 d1 d2
      replace d0 := (hbel.cell (World.block_lt_of_cell? w _ d0)).trans d0
      replace d1 := (hbel.cell (World.block_lt_of_cell? w _ d1)).trans d1
      replace d2 := (hbel.cell (World.block_lt_of_cell? w _ d2)).trans d2
      have HO := Lib.hid hown
      have HB := Lib.hid hbel
      have HAC := Lib.hid hacc
      have HAL := Lib.hid hal
      have hbase := hbel.size
      by_cases hxy : fn = x
      · have ht : (fn.toList == x.toList) = true := by rw [text_beq]; exact decide_eq_true hxy
        have HTS := Lib.hid (show withoutL (l.take (k + 1)) x = acc by unfold withoutL at *; rw [hts, hacc]; simp [hxy])
        clear hc1 hc HA hf hbel hacc hal hown hts hxy
        go_wp2
        go_roundw
        case measure => simp [intOf]; omega
        case rel =>
          exact ⟨k + 1, acc, by omega, by go_num, HTS.out.symm, by have := HAL.out; omega, HO.out.alloc _, HB.out.alloc HB.out.size _⟩
      · have ht : (fn.toList == x.toList) = false := by rw [text_beq]; exact decide_eq_false hxy
        have HTS := Lib.hid (show withoutL (l.take (k + 1)) x = acc ++ [(fn, fd, fs)] by unfold withoutL at *; rw [hts, hacc]; simp [hxy])
        clear hc1 hc HA hf hbel hacc hal hown hts hxy
        go_wp2_with (at_builtin; go_must (refine wpList_append_own_at _ rfl _ _ 28 rfl w.heap.size 88 i0 (.agg #[.string ⟨#[]⟩, .string ⟨#[]⟩, .int .i64 0]) 3 40 Tryz.underlying28 HI.out HZ0.out HZ1.out HZ2.out rfl (by omega) _ acc.length (rcells acc) rfl ((HO.out.alloc _).alloc _) ⟨_, 0, none⟩ 1 1 [.string fn, .string fd, .int .i64 fs] rfl rfl (World.news_of_block (heap_alloc2_new _ _ _)) (rf_one (fn, fd, fs)) ?g1 ?g2 ?g3 ?g4))
        case g1 => have := HAL.out; simp only [maxLen]; omega
        case g2 => have := HAL.out; omega
        case g3 => simp; omega
        intro v' w' hown' hgrow' _ _
        go_wp2
        go_roundw
        case measure => simp [intOf]; omega
        case rel =>
          refine ⟨k + 1, acc ++ [(fn, fd, fs)], by omega, by go_num, HTS.out.symm, by have := HAL.out; simp; omega, ?_, ?_⟩
          · rw [rcells_snoc]; simpa [RF.cells] using hown'
          · exact below_grow ((HB.out.alloc HB.out.size _).alloc (by simp; omega) _) hgrow' (fun g e => (HO.out.lt g e).1) (by simp; omega)
    · have hkn : l.take k = l := List.take_of_length_le (by rw [← HN.out]; omega)
      rw [hkn] at hacc
      have HO := Lib.hid hown
      have HB := Lib.hid hbel
      have HAC := Lib.hid hacc
      clear hkn hacc hown hbel hal
      go_wp2
      go_ret
      exact ⟨_, rfl, by rw [← HAC.out]; exact HO.out, HB.out⟩
end Go.Proofs.YtpllcnpcplbobaaGreat
end
section
namespace Go.Proofs.YtpllcnpcplbobaaGreat
open Go.RowKit Go.Maps
set_option maxRecDepth 100000 in
set_option maxHeartbeats 2000000 in
theorem rwith_any (va : Value) (l : List RF) (hm : l.length ≤ 1099511627776) (left : Int) (xn xd : ByteArray) (xs : Int) (w : World) (hA : FilesAt w va l) :
    Calls Tryz.prog 46 #[.agg #[va, .int .i64 left], .agg #[.string xn, .string xd, .int .i64 xs]] w fun e w' => ∃ v, e = .returned v ∧ w'.ownsRow w.heap.size 88 3 v (withL l (xn, xd, xs)).length (rcells (withL l (xn, xd, xs))) ∧ Below w.heap.size w w' := by
  obtain ⟨i0, hi, hz0, hz1, hz2⟩ := info_parts infoFile
  obtain ⟨a, ca, rfl, ha⟩ := hA
  obtain ⟨n, hn⟩ : ∃ n, n = l.length := ⟨_, rfl⟩
  rw [← hn] at hm ⊢
  have HA := Lib.hid ha
  have HN := Lib.hid hn
  have HI := Lib.hid hi
  have HZ0 := Lib.hid hz0
  have HZ1 := Lib.hid hz1
  have HZ2 := Lib.hid hz2
  clear ha hn hi hz0 hz1 hz2
  have hx0 : ∀ W : World, Below (w.heap.size + 2) ((w.alloc (.cells #[.slice a n ca, .int .i64 left] 30)).alloc (.cells #[.string xn, .string xd, .int .i64 xs] 88)) W →
      W.cell? ⟨w.heap.size + 1, 0, none⟩ = some (.string xn) ∧ W.cell? ⟨w.heap.size + 1, 1, none⟩ = some (.string xd) ∧ W.cell? ⟨w.heap.size + 1, 2, none⟩ = some (.int .i64 xs) ∧ W.cell? ⟨w.heap.size, 0, none⟩ = some (.slice a n ca) ∧ Below w.heap.size w W ∧ w.heap.size + 2 ≤ W.heap.size := fun W hW => by
    have hb : Below w.heap.size w W := (((Below.refl _ _).alloc (Nat.le_refl _) _).alloc (by simp) _).trans (hW.mono (by omega))
    have h1 := heap_alloc2_new w (.cells #[.slice a n ca, .int .i64 left] 30) (.cells #[.string xn, .string xd, .int .i64 xs] 88)
    have hsz : w.heap.size + 2 ≤ W.heap.size := by have := hW.size; simp at this; omega
    refine ⟨?_, ?_, ?_, ?_, hb, hsz⟩
    · exact (hW.cell (by simp)).trans (by rw [cell_of_row _ _ _ _ _ _ h1]; rfl)
    · exact (hW.cell (by simp)).trans (by rw [cell_of_row _ _ _ _ _ _ h1]; rfl)
    · exact (hW.cell (by simp)).trans (by rw [cell_of_row _ _ _ _ _ _ h1]; rfl)
    · refine (hW.cell (by simp)).trans ?_
      rw [cell_of_row _ _ _ _ _ _ ((heap_alloc_old _ _ (by simp)).trans (heap_alloc_new w _))]; rfl
  have HX := Lib.hid hx0
  clear hx0
  go_enter Tryz.func46, Tryz.ntmps46
  go_wp2_with fail
  obtain ⟨W0, hW0⟩ : ∃ W0, W0 = (w.alloc (.cells #[.slice a n ca, .int .i64 left] 30)).alloc (.cells #[.string xn, .string xd, .int .i64 xs] 88) := ⟨_, rfl⟩
  have hs0 : W0.heap.size = w.heap.size + 2 := by rw [hW0]; simp
  rw [← hW0] at HX
  have hstart : (W0.alloc (.cells #[] 88)).ownsRow (w.heap.size + 2) 88 3 (.slice (some ⟨w.heap.size + 2, 0, none⟩) 0 0) 0 [] := owns_nil3 _ _ _ hs0 (Nat.le_refl _) _
  have hst2 : Below (w.heap.size + 2) W0 (W0.alloc (.cells #[] 88)) := (Below.refl _ _).alloc (by omega) _
  rw [hW0] at hstart hst2
  have HST := Lib.hid hstart
  have HST2 := Lib.hid hst2
  rw [hW0] at HX
  clear hs0 hstart hst2 hW0 W0
  go_loopw [5, 14] (fun v i wr => ∃ (k : Nat) (acc : List RF), k ≤ n ∧ i = .int .i64 k ∧ acc = lowL (l.take k) xn ∧ acc.length ≤ k ∧ wr.ownsRow (w.heap.size + 2) 88 3 v acc.length (rcells acc) ∧
     Below (w.heap.size + 2) ((w.alloc (.cells #[.slice a n ca, .int .i64 left] 30)).alloc (.cells #[.string xn, .string xd, .int .i64 xs] 88)) wr) (fun _ i _ => n - (intOf i).toNat)
  case atStart => exact ⟨0, [], by omega, rfl, rfl, by simp, HST.out, HST2.out⟩
  case round =>
    obtain ⟨k, acc, hk, rfl, hacc, hal, hown, hbel0⟩ := hrel
    obtain ⟨x0, x1, x2, x3, hbel, hsz⟩ := HX.out _ hbel0
    have hs1 : w.heap.size + 1 < wr.heap.size := by omega
    have hs2 : w.heap.size < wr.heap.size := by omega
    have HO := Lib.hid hown
    have HB := Lib.hid hbel
    have HB0 := Lib.hid hbel0
    have HAL := Lib.hid hal
    by_cases hlt : k < n
    · have hAk : k < l.length := by rw [← HN.out]; exact hlt
      rcases HA.out with h0 | ⟨b1, o1, rfl, hc1⟩
      · omega
      have hts := filter_take_succ (fun f : RF => lessB f.1 xn) l k hAk
      obtain ⟨f, hf⟩ : ∃ f, f = l[k] := ⟨_, rfl⟩
      have hc := hc1 k hAk
      rw [← hf] at hc hts
      obtain ⟨fn, fd, fs⟩ := f
      have d0 := hc 0 _ rfl
      have d1 := hc 1 _ rfl
      have d2 := hc 2 _ rfl
      simp only [Nat.add_zero] at d0 d1 d2
      replace d0 := (hbel.cell (World.block_lt_of_cell? w _ d0)).trans d0
      replace d1 := (hbel.cell (World.block_lt_of_cell? w _ d1)).trans d1
      replace d2 := (hbel.cell (World.block_lt_of_cell? w _ d2)).trans d2
      cases hxy : lessB fn xn with
      | false =>
        have ht : Op.bytesLess fn.toList xn.toList = false := hxy
        have HTS := Lib.hid (show lowL (l.take (k + 1)) xn = acc by unfold lowL at *; rw [hts, hacc]; simp [hxy])
        clear hc1 hc HA hf hbel hbel0 hacc hal hown hts hxy
        go_wp2
        go_roundw
        case measure => simp [intOf]; omega
        case rel =>
          exact ⟨k + 1, acc, by omega, by go_num, HTS.out.symm, by have := HAL.out; omega, HO.out.alloc _, HB0.out.alloc hsz _⟩
      | true =>
        have ht : Op.bytesLess fn.toList xn.toList = true := hxy
        have HTS := Lib.hid (show lowL (l.take (k + 1)) xn = acc ++ [(fn, fd, fs)] by unfold lowL at *; rw [hts, hacc]; simp [hxy])
        clear hc1 hc HA hf hbel hbel0 hacc hal hown hts hxy
        go_wp2_with (at_builtin; go_must (refine wpList_append_own_at _ rfl _ _ 28 rfl (w.heap.size + 2) 88 i0 (.agg #[.string ⟨#[]⟩, .string ⟨#[]⟩, .int .i64 0]) 3 40 Tryz.underlying28 HI.out HZ0.out HZ1.out HZ2.out rfl (by omega) _ acc.length (rcells acc) rfl ((HO.out.alloc _).alloc _) ⟨_, 0, none⟩ 1 1 [.string fn, .string fd, .int .i64 fs] rfl rfl (World.news_of_block (heap_alloc2_new _ _ _)) (rf_one (fn, fd, fs)) ?ga1 ?ga2 ?ga3 ?ga4))
        case ga1 => have := HAL.out; simp only [maxLen]; omega
        case ga2 => have := HAL.out; omega
        case ga3 => simp; omega
        intro v' w' hown' hgrow' _ _
        go_wp2
        go_roundw
        case measure => simp [intOf]; omega
        case rel =>
          refine ⟨k + 1, acc ++ [(fn, fd, fs)], by omega, by go_num, HTS.out.symm, by have := HAL.out; simp; omega, ?_, ?_⟩
          · rw [rcells_snoc]; simpa [RF.cells] using hown'
          · exact below_grow ((HB0.out.alloc hsz _).alloc (by simp; omega) _) hgrow' (fun g e => (HO.out.lt g e).1) (by simp; omega)
    · have hkn : l.take k = l := List.take_of_length_le (by rw [← HN.out]; omega)
      rw [hkn] at hacc
      have HAC := Lib.hid hacc
      clear hkn hacc hown hbel hbel0 hal
      go_wp2_with (at_builtin; go_must (refine wpList_append_own_at _ rfl _ _ 28 rfl (w.heap.size + 2) 88 i0 (.agg #[.string ⟨#[]⟩, .string ⟨#[]⟩, .int .i64 0]) 3 40 Tryz.underlying28 HI.out HZ0.out HZ1.out HZ2.out rfl (by omega) _ acc.length (rcells acc) rfl (HO.out.alloc _) ⟨_, 0, none⟩ 1 1 [.string xn, .string xd, .int .i64 xs] rfl rfl (World.news_of_block (heap_alloc_new _ _)) (rf_one (xn, xd, xs)) ?gb1 ?gb2 ?gb3 ?gb4))
      case gb1 => have := HAL.out; simp only [maxLen]; omega
      case gb2 => have := HAL.out; omega
      case gb3 => simp; omega
      intro v1 w1 hown1 hgrow1 _ _
      have hb1 : Below (w.heap.size + 2) ((w.alloc (.cells #[.slice a n ca, .int .i64 left] 30)).alloc (.cells #[.string xn, .string xd, .int .i64 xs] 88)) w1 := below_grow (HB0.out.alloc hsz _) hgrow1 (fun g e => (HO.out.lt g e).1) (by simp; omega)
      have hown1' : w1.ownsRow (w.heap.size + 2) 88 3 v1 (acc ++ [(xn, xd, xs)]).length (rcells (acc ++ [(xn, xd, xs)])) := by
        rw [rcells_snoc]; simpa [RF.cells] using hown1
      obtain ⟨A1, hA1⟩ : ∃ A1, A1 = acc ++ [(xn, xd, xs)] := ⟨_, rfl⟩
      have hA1l : A1.length ≤ n + 1 := by have := HAL.out; rw [hA1]; simp; omega
      rw [← hA1] at hown1'
      rw [HAC.out] at hA1
      obtain ⟨y0, y1, y2, y3, ybel, ysz⟩ := HX.out _ hb1
      have HO1 := Lib.hid hown1'
      have HB1 := Lib.hid hb1
      have HA1 := Lib.hid hA1
      clear hown1 hown1' hb1 hgrow1 hA1 HAC HB0 HB HO HAL x0 x1 x2 x3 ybel
      go_wp2_with fail
      go_loopw [5, 35] (fun v i wr => ∃ (k : Nat) (acc : List RF), k ≤ n ∧ i = .int .i64 k ∧ acc = A1 ++ highL (l.take k) xn ∧ acc.length ≤ n + 1 + k ∧ wr.ownsRow (w.heap.size + 2) 88 3 v acc.length (rcells acc) ∧
        Below (w.heap.size + 2) ((w.alloc (.cells #[.slice a n ca, .int .i64 left] 30)).alloc (.cells #[.string xn, .string xd, .int .i64 xs] 88)) wr) (fun _ i _ => n - (intOf i).toNat)
      case atStart => exact ⟨0, A1, by omega, rfl, by simp [highL], by omega, HO1.out, HB1.out⟩
      case round =>
        obtain ⟨k, acc, hk, rfl, hacc, hal, hown, hbel0⟩ := hrel
        obtain ⟨x0, x1, x2, x3, hbel, hsz⟩ := HX.out _ hbel0
        have hs1 : w.heap.size + 1 < wr.heap.size := by omega
        have hs2 : w.heap.size < wr.heap.size := by omega
        have HO := Lib.hid hown
        have HB := Lib.hid hbel
        have HB0 := Lib.hid hbel0
        have HAL := Lib.hid hal
        by_cases hlt : k < n
        · have hAk : k < l.length := by rw [← HN.out]; exact hlt
          rcases HA.out with h0 | ⟨b1, o1, rfl, hc1⟩
          · omega
          have hts := filter_take_succ (fun f : RF => lessB xn f.1) l k hAk
          obtain ⟨f, hf⟩ : ∃ f, f = l[k] := ⟨_, rfl⟩
          have hc := hc1 k hAk
          rw [← hf] at hc hts
          obtain ⟨fn, fd, fs⟩ := f
          have d0 := hc 0 _ rfl
          have d1 := hc 1 _ rfl
          have d2 := hc 2 _ rfl
          simp only [Nat.add_zero] at d0 d1 d2
          replace d0 := (hbel.cell (World.block_lt_of_cell? w _ d0)).trans d0
          replace d1 := (hbel.cell (World.block_lt_of_cell? w _ d1)).trans d1
          replace d2 := (hbel.cell (World.block_lt_of_cell? w _ d2)).trans d2
          cases hxy : lessB xn fn with
          | false =>
            have ht : (!(Op.bytesLess fn.toList xn.toList || fn.toList == xn.toList)) = false := (gtB fn xn).trans hxy
            have HTS := Lib.hid (show A1 ++ highL (l.take (k + 1)) xn = acc by unfold highL at *; rw [hts, hacc]; simp [hxy])
            clear hc1 hc HA hf hbel hbel0 hacc hal hown hts hxy
            go_wp2
            go_roundw
            case measure => simp [intOf]; omega
            case rel =>
              exact ⟨k + 1, acc, by omega, by go_num, HTS.out.symm, by have := HAL.out; omega, HO.out.alloc _, HB0.out.alloc hsz _⟩
          | true =>
            have ht : (!(Op.bytesLess fn.toList xn.toList || fn.toList == xn.toList)) = true := (gtB fn xn).trans hxy
            have HTS := Lib.hid (show A1 ++ highL (l.take (k + 1)) xn = acc ++ [(fn, fd, fs)] by unfold highL at *; rw [hts, hacc]; simp [hxy])
            clear hc1 hc HA hf hbel hbel0 hacc hal hown hts hxy
            go_wp2_with (at_builtin; go_must (refine wpList_append_own_at _ rfl _ _ 28 rfl (w.heap.size + 2) 88 i0 (.agg #[.string ⟨#[]⟩, .string ⟨#[]⟩, .int .i64 0]) 3 40 Tryz.underlying28 HI.out HZ0.out HZ1.out HZ2.out rfl (by omega) _ acc.length (rcells acc) rfl ((HO.out.alloc _).alloc _) ⟨_, 0, none⟩ 1 1 [.string fn, .string fd, .int .i64 fs] rfl rfl (World.news_of_block (heap_alloc2_new _ _ _)) (rf_one (fn, fd, fs)) ?gc1 ?gc2 ?gc3 ?gc4))
            case gc1 => have := HAL.out; simp only [maxLen]; omega
            case gc2 => have := HAL.out; omega
            case gc3 => simp; omega
            intro v' w' hown' hgrow' _ _
            go_wp2
            go_roundw
            case measure => simp [intOf]; omega
            case rel =>
              refine ⟨k + 1, acc ++ [(fn, fd, fs)], by omega, by go_num, HTS.out.symm, by have := HAL.out; simp; omega, ?_, ?_⟩
              · rw [rcells_snoc]; simpa [RF.cells] using hown'
              · exact below_grow ((HB0.out.alloc hsz _).alloc (by simp; omega) _) hgrow' (fun g e => (HO.out.lt g e).1) (by simp; omega)
        · have hkn : l.take k = l := List.take_of_length_le (by rw [← HN.out]; omega)
          rw [hkn, HA1.out] at hacc
          have HAC := Lib.hid hacc
          clear hkn hacc hown hbel hbel0 hal
          go_wp2
          go_ret
          refine ⟨_, rfl, ?_, HB.out⟩
          rw [show withL l (xn, xd, xs) = acc from HAC.out.symm]
          exact ownsRow_base_a HO.out (by omega)
end Go.Proofs.YtpllcnpcplbobaaGreat
end
section
namespace Go.Proofs.YtpllcnpcplbobaaGreat
open Go.RowKit Go.Maps
/-! A list of files, by rising names, says what a map of files says. -/
structure Lists (g : FS) (l : List RF) : Prop where
  rises : l.Pairwise (fun f h => lessB f.1 h.1 = true)
  all : ∀ f, f ∈ l ↔ g f.1 = some f.2
theorem lists_nil : Lists (fun _ => none) [] := ⟨.nil, fun f => by simp⟩
theorem lessB_irrefl (x : ByteArray) : lessB x x = false := by
  rw [lessB_eq]; exact decide_eq_false (List.lt_irrefl _)
theorem lessB_ne {x y : ByteArray} (h : lessB x y = true) : x ≠ y := fun e => by rw [e, lessB_irrefl] at h; cases h
theorem lessB_trans {x y z : ByteArray} (h : lessB x y = true) (k : lessB y z = true) : lessB x z = true := by
  rw [lessB_eq] at *
  exact decide_eq_true (List.lt_trans (of_decide_eq_true h) (of_decide_eq_true k))
theorem lessB_asymm {x y : ByteArray} (h : lessB x y = true) : lessB y x = false := by
  cases h2 : lessB y x with
  | false => rfl
  | true => have := lessB_trans h h2; rw [lessB_irrefl] at this; cases this
theorem lessB_tri (x y : ByteArray) : lessB x y = true ∨ x = y ∨ lessB y x = true := by
  rw [lessB_eq, lessB_eq]
  by_cases h1 : x.data.toList < y.data.toList
  · exact .inl (decide_eq_true h1)
  · by_cases h2 : y.data.toList < x.data.toList
    · exact .inr (.inr (decide_eq_true h2))
    · exact .inr (.inl (WideShapes.bytes_inj (List.le_antisymm h2 h1)))
theorem Lists.some {g : FS} {l : List RF} (h : Lists g l) {k : Nat} (hk : k < l.length) : g (l[k]).1 = some (l[k]).2 := (h.all _).1 (List.getElem_mem hk)
theorem Lists.none {g : FS} {l : List RF} (h : Lists g l) {x : ByteArray} (hn : ∀ j (hj : j < l.length), (l[j]).1 ≠ x) : g x = none := by
  cases hg : g x with
  | none => rfl
  | some f =>
    have hm := (h.all (x, f)).2 hg
    obtain ⟨j, hj, e⟩ := List.getElem_of_mem hm
    exact absurd (by rw [e]) (hn j hj)
/-- Where a file stands, by what the map says. -/
theorem Lists.atIs {g : FS} {l : List RF} (h : Lists g l) {x : ByteArray} {i : Int} (hi : AtIs l x i) :
    (g x = .none ∧ i = -1) ∨ ∃ k, ∃ hk : k < l.length, i = (k : Int) ∧ ∃ d s, l[k] = (x, d, s) ∧ g x = .some (d, s) := by
  rcases hi with ⟨rfl, hn⟩ | ⟨k, hk, rfl, hx, _⟩
  · exact .inl ⟨h.none hn, rfl⟩
  · refine .inr ⟨k, hk, rfl, (l[k]).2.1, (l[k]).2.2, ?_, ?_⟩
    · rw [← hx]
    · have := h.some hk
      rw [hx] at this
      exact this
theorem pairwise_filter {α : Type} {r : α → α → Prop} {l : List α} (p : α → Bool) (h : l.Pairwise r) : (l.filter p).Pairwise r := h.sublist List.filter_sublist
theorem Lists.with {g : FS} {l : List RF} (h : Lists g l) (f : RF) : Lists (g.put f.1 f.2) (withL l f) := by
  refine ⟨?_, fun e => ?_⟩
  · unfold withL
    rw [List.pairwise_append, List.pairwise_append]
    refine ⟨⟨pairwise_filter _ h.rises, List.pairwise_singleton _ _, fun a ha b hb => ?_⟩, pairwise_filter _ h.rises, fun a ha b hb => ?_⟩
    · rw [List.mem_singleton.1 hb]; exact (List.mem_filter.1 ha).2
    · have hb2 := (List.mem_filter.1 hb).2
      rcases List.mem_append.1 ha with ha | ha
      · exact lessB_trans (List.mem_filter.1 ha).2 hb2
      · rw [List.mem_singleton.1 ha]; exact hb2
  · have hm : e ∈ withL l f ↔ (e ∈ l ∧ lessB e.1 f.1 = true) ∨ e = f ∨ (e ∈ l ∧ lessB f.1 e.1 = true) := by
      unfold withL lowL highL
      simp only [List.mem_append, List.mem_filter, List.mem_singleton, or_assoc]
    rw [hm]
    unfold FS.put
    by_cases he : e.1 = f.1
    · rw [if_pos he, he, lessB_irrefl]
      simp only [Bool.false_eq_true, and_false, false_or, or_false, Option.some.injEq]
      constructor
      · rintro rfl; rfl
      · intro e2
        exact Prod.ext he e2.symm
    · rw [if_neg he, ← h.all e]
      constructor
      · rintro (h1 | h1 | h1)
        · exact h1.1
        · exact absurd (by rw [h1]) he
        · exact h1.1
      · intro h1
        rcases lessB_tri e.1 f.1 with h2 | h2 | h2
        · exact .inl ⟨h1, h2⟩
        · exact absurd h2 he
        · exact .inr (.inr ⟨h1, h2⟩)
theorem Lists.without {g : FS} {l : List RF} (h : Lists g l) (x : ByteArray) : Lists (g.del x) (withoutL l x) := by
  refine ⟨pairwise_filter _ h.rises, fun e => ?_⟩
  unfold withoutL FS.del
  rw [List.mem_filter, h.all e]
  by_cases he : e.1 = x <;> simp [he]
theorem filter_two {α : Type} (p q : α → Bool) (h : ∀ a, p a = true → q a = false) : ∀ l : List α, (l.filter p).length + (l.filter q).length ≤ l.length
  | [] => Nat.le_refl _
  | a :: l => by
    have ih := filter_two p q h l
    have := h a
    cases hp : p a <;> cases hq : q a <;> simp_all <;> omega
theorem withL_length (l : List RF) (f : RF) : (withL l f).length ≤ l.length + 1 := by
  have := filter_two (fun e : RF => lessB e.1 f.1) (fun e : RF => lessB f.1 e.1) (fun a ha => lessB_asymm ha) l
  unfold withL lowL highL
  simp only [List.length_append, List.length_singleton]
  omega
theorem withoutL_length (l : List RF) (x : ByteArray) : (withoutL l x).length ≤ l.length := List.length_filter_le _ _
theorem lessB_le {x y : ByteArray} (h : lessB x y = true) : x.data.toList ≤ y.data.toList := by
  rw [lessB_eq] at h
  exact List.le_of_lt (of_decide_eq_true h)
/-- All names, rising: those of the map's. -/
theorem Lists.names {g : FS} {l : List RF} (h : Lists g l) {m : List ByteArray} (hm : NamesOf g m) : l.map (·.1) = m := by
  have hr : (l.map (·.1)).Pairwise (fun a b : ByteArray => a.data.toList ≤ b.data.toList) := by
    rw [List.pairwise_map]
    exact h.rises.imp fun e => lessB_le e
  have hn : (l.map (·.1)).Nodup := by
    rw [List.nodup_iff_pairwise_ne, List.pairwise_map]
    exact h.rises.imp fun e => lessB_ne e
  refine List.Perm.eq_of_pairwise (le := fun a b : ByteArray => a.data.toList ≤ b.data.toList) (fun a b _ _ h1 h2 => WideShapes.bytes_inj (List.le_antisymm h1 h2)) hr hm.rising
    ((List.perm_ext_iff_of_nodup hn hm.once).2 fun x => ?_)
  rw [hm.all x, List.mem_map]
  constructor
  · rintro ⟨e, he, rfl⟩
    rw [(h.all e).1 he]; rfl
  · intro hx
    cases hg : g x with
    | none => rw [hg] at hx; cases hx
    | some f => exact ⟨(x, f), (h.all _).2 hg, rfl⟩
/-- A reference's disk's files, in memory. -/
def RefAt (w : World) (v : Value) (g : FS) (N : Nat) : Prop := ∃ l, FilesAt w v l ∧ Lists g l ∧ l.length ≤ N
theorem RefAt.below {w w' : World} {v : Value} {g : FS} {N : Nat} (h : RefAt w v g N) (hb : Below w.heap.size w w') : RefAt w' v g N := by
  obtain ⟨l, h1, h2, h3⟩ := h
  exact ⟨l, h1.below hb, h2, h3⟩
theorem RefAt.mono {w : World} {v : Value} {g : FS} {N M : Nat} (h : RefAt w v g N) (hn : N ≤ M) : RefAt w v g M := by
  obtain ⟨l, h1, h2, h3⟩ := h
  exact ⟨l, h1, h2, by omega⟩
theorem refAt_nil (w : World) : RefAt w (.slice none 0 0) (fun _ => none) 0 := ⟨[], filesAt_nil w, lists_nil, Nat.le_refl _⟩
end Go.Proofs.YtpllcnpcplbobaaGreat
end
