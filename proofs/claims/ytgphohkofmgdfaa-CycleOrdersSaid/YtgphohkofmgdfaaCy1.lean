import Derived.Test.YtgphohkofmgdfaaBase
import Derived.Test.YtgphohkofmgdfaaCySrt
import Derived.Sort.OwnSortedInts
namespace Go.Proofs.Ytgphohkofmgdfaa
open Go.RowKit Go.Sort
set_option linter.unusedVariables false
def ints (l : List Int) : List Value := l.map (Value.int .i64)
theorem length_ints (l : List Int) : (ints l).length = l.length := by simp [ints]
theorem owns_below0 {w w' : World} {base : Nat} {e : TypeId} {size : Nat} {v : Value} {n : Nat} {xs : List Value} (h : w.ownsRow base e size v n xs) (hb : Below w.heap.size w w') : w'.ownsRow base e size v n xs :=
  h.kept (row := none) (only_of_below hb none) (by
    cases hv : v.ownBlock with
    | none => exact .inl rfl
    | some g => exact .inr (by simp))
def srt (l : List Int) : List Int := l.mergeSort fun x y => decide (x ≤ y)
theorem length_srt (l : List Int) : (srt l).length = l.length := by simp [srt]
theorem take_putCells_pre (cur : Array Value) (ts : List Int) (m : Nat) (hm : m ≤ ts.length) (h : ts.length ≤ cur.size) : (putCells (Value.int .i64) 0 ts.toArray cur).toList.take m = (ts.take m).map (Value.int .i64) := by
  have h1 := take_putCellsI cur ts h
  have h2 := congrArg (List.take m) h1
  rw [List.take_take, Nat.min_eq_left hm, ← List.map_take] at h2
  exact h2
/-- slices.Sort of a row of the call's own. -/
theorem sort_own (base : Nat) (v : Value) (zs : List Int) (hz : zs.length ≤ 1000000) (w : World) (h : w.ownsRow base 3 1 v zs.length (ints zs)) :
    Calls Try.prog 32 #[v] w fun e w' => e = .returned (.tuple #[]) ∧ w'.ownsRow base 3 1 v zs.length (ints (srt zs)) ∧ w.grownBy w' v.ownBlock := by
  rcases h.2 with ⟨rfl, h0⟩ | ⟨g, cap, cur, rfl, hg, hb, h1, h2, h3, h4⟩
  · have hz0 : zs = [] := List.eq_nil_of_length_eq_zero h0
    subst hz0
    refine (slices_Sort_int_none none 0 w).mono ?_
    rintro e w' ⟨rfl, rfl⟩
    have e0 : srt [] = [] := by simp [srt]
    rw [e0]
    exact ⟨rfl, h, World.grownBy.refl _ _⟩
  · have hlt : g < w.heap.size := (Array.getElem?_eq_some_iff.1 hb).1
    have hH : Holds (Value.int .i64) w g 0 zs.toArray := holds_of_blockI hb (by rw [Nat.mul_one] at h4; exact h4)
    refine (slices_Sort_int g 0 cap zs w hH hlt (by omega)).mono ?_
    rintro e w' ⟨rfl, n, os, rfl⟩
    refine ⟨rfl, ?_, grownBy_sortedI _⟩
    have := ownsRow_sortedI (w := w) (n := n) (os := os) (ss := zs) (ts := srt zs) (length_srt zs) hg hb h1 h2 h3
    exact this
/-- slices.Compact of a row of the call's own. -/
theorem compact_own (base : Nat) (v : Value) (zs : List Int) (hz : zs.length ≤ 1000000) (w : World) (h : w.ownsRow base 3 1 v zs.length (ints zs)) :
    Calls Try.prog 33 #[v] w fun e w' => ∃ v', e = .returned v' ∧ w'.ownsRow base 3 1 v' (Lib.compact zs).length (ints (Lib.compact zs)) ∧ w.grownBy w' v.ownBlock ∧ v'.ownBlock = v.ownBlock := by
  rcases h.2 with ⟨rfl, h0⟩ | ⟨g, cap, cur, rfl, hg, hb, h1, h2, h3, h4⟩
  · have hz0 : zs = [] := List.eq_nil_of_length_eq_zero h0
    subst hz0
    refine (slices_Compact_int_empty none 0 w).mono ?_
    rintro e w' ⟨rfl, rfl⟩
    exact ⟨_, rfl, h, World.grownBy.refl _ _, rfl⟩
  · have hlt : g < w.heap.size := (Array.getElem?_eq_some_iff.1 hb).1
    have hH : Holds (Value.int .i64) w g 0 zs.toArray := holds_of_blockI hb (by rw [Nat.mul_one] at h4; exact h4)
    refine (slices_Compact_int g 0 cap zs w hH (by omega) h1).mono ?_
    rintro e w' ⟨rfl, n, rfl⟩
    have hle : (Lib.compact zs).length ≤ zs.length := by
      simp only [Lib.compact, Lib.compactUpTo, List.length_map]
      exact Nat.le_trans (List.length_filter_le _ _) (by simp)
    have hge : grow (putRow (Value.int .i64) (Sort.ahead w n) g 0 (Lib.compact zs ++ List.replicate (zs.length - (Lib.compact zs).length) 0).toArray) #[] = putRow (Value.int .i64) (Sort.ahead w n) g 0 (Lib.compact zs ++ List.replicate (zs.length - (Lib.compact zs).length) 0).toArray := grow_empty _
    rw [← hge]
    refine ⟨_, rfl, ⟨by simp [ints], .inr ⟨g, cap, _, rfl, hg, heap_sortedI _ hb, by omega, h2, by simp [putCells, h3], ?_⟩⟩, grownBy_sortedI _, rfl⟩
    rw [Nat.mul_one, take_putCells_pre _ _ _ (by simp) (by simp; omega), List.take_left]
    rfl
/-! Numbers and graphs, as they can be read. -/
def NumsR (w : World) (v : Value) (l : List Int) : Prop :=
  ∃ (a : Option Addr) (c : Nat), v = .slice a l.length c ∧ l.length ≤ c ∧ (l.length = 0 ∨ ∃ b o, a = some ⟨b, o, none⟩ ∧ ∀ i (h : i < l.length), w.cell? ⟨b, o + i, none⟩ = some (.int .i64 l[i]))
theorem NumsR.below {w w' : World} {v : Value} {l : List Int} (h : NumsR w v l) (hb : Below w.heap.size w w') : NumsR w' v l := by
  obtain ⟨a, c, hv, hl, h0 | ⟨b, o, ha, hc⟩⟩ := h
  · exact ⟨a, c, hv, hl, .inl h0⟩
  · exact ⟨a, c, hv, hl, .inr ⟨b, o, ha, fun i hi => (hb.cell (World.block_lt_of_cell? _ _ (hc i hi))).trans (hc i hi)⟩⟩
theorem numsR_owned {w : World} {base : Nat} {v : Value} {l : List Int} (h : w.ownsRow base 3 1 v l.length (ints l)) : NumsR w v l := by
  by_cases h0 : l.length = 0
  · rcases h.2 with ⟨rfl, _⟩ | ⟨g, cap, cur, rfl, _, _, hc, _⟩
    · exact ⟨none, 0, by rw [h0], by omega, .inl h0⟩
    · exact ⟨_, cap, rfl, hc, .inl h0⟩
  · rcases h.2 with ⟨_, h1⟩ | ⟨g, cap, cur, rfl, _, _, hc, _⟩
    · exact absurd h1 h0
    · refine ⟨_, cap, rfl, hc, .inr ⟨g, 0, rfl, fun i hi => ?_⟩⟩
      rw [Nat.zero_add, h.cellAt i (by omega)]
      simp [ints, hi]
theorem numsR_nil (w : World) : NumsR w (.slice none 0 0) [] := ⟨none, 0, rfl, Nat.le_refl _, .inl rfl⟩
def GraphR (w : World) (v : Value) (X : List (List Int)) : Prop :=
  ∃ (a : Option Addr) (c : Nat), v = .slice a X.length c ∧ X.length ≤ c ∧ (X.length = 0 ∨ ∃ b o, a = some ⟨b, o, none⟩ ∧ ∀ i (h : i < X.length), ∃ u, w.cell? ⟨b, o + i, none⟩ = some u ∧ NumsR w u X[i])
theorem GraphR.below {w w' : World} {v : Value} {X : List (List Int)} (h : GraphR w v X) (hb : Below w.heap.size w w') : GraphR w' v X := by
  obtain ⟨a, c, hv, hl, h0 | ⟨b, o, ha, hc⟩⟩ := h
  · exact ⟨a, c, hv, hl, .inl h0⟩
  · refine ⟨a, c, hv, hl, .inr ⟨b, o, ha, fun i hi => ?_⟩⟩
    obtain ⟨u, h1, h2⟩ := hc i hi
    exact ⟨u, (hb.cell (World.block_lt_of_cell? _ _ h1)).trans h1, h2.below hb⟩
/-! .. in blocks from base on. -/
def NumsF (base : Nat) (w : World) (v : Value) (l : List Int) : Prop :=
  ∃ (a : Option Addr) (c : Nat), v = .slice a l.length c ∧ l.length ≤ c ∧ (l.length = 0 ∨ ∃ b o, a = some ⟨b, o, none⟩ ∧ base ≤ b ∧ ∀ i (h : i < l.length), w.cell? ⟨b, o + i, none⟩ = some (.int .i64 l[i]))
theorem NumsF.at {base : Nat} {w : World} {v : Value} {l : List Int} (h : NumsF base w v l) : NumsR w v l := by
  obtain ⟨a, c, hv, hl, h0 | ⟨b, o, ha, _, hc⟩⟩ := h
  · exact ⟨a, c, hv, hl, .inl h0⟩
  · exact ⟨a, c, hv, hl, .inr ⟨b, o, ha, hc⟩⟩
theorem NumsF.keep {base : Nat} {w w' : World} {v : Value} {l : List Int} (h : NumsF base w v l) (hk : ∀ k, base ≤ k → k < w.heap.size → w'.heap[k]? = w.heap[k]?) : NumsF base w' v l := by
  obtain ⟨a, c, hv, hl, h0 | ⟨b, o, ha, hb, hc⟩⟩ := h
  · exact ⟨a, c, hv, hl, .inl h0⟩
  · exact ⟨a, c, hv, hl, .inr ⟨b, o, ha, hb, fun i hi => (World.cell?_of_block (hk b hb (World.block_lt_of_cell? _ _ (hc i hi)))).trans (hc i hi)⟩⟩
theorem NumsF.mono {base B : Nat} {w : World} {v : Value} {l : List Int} (h : NumsF base w v l) (hB : B ≤ base) : NumsF B w v l := by
  obtain ⟨a, c, hv, hl, h0 | ⟨b, o, ha, hb, hc⟩⟩ := h
  · exact ⟨a, c, hv, hl, .inl h0⟩
  · exact ⟨a, c, hv, hl, .inr ⟨b, o, ha, by omega, hc⟩⟩
theorem numsF_owned {w : World} {base : Nat} {v : Value} {l : List Int} (h : w.ownsRow base 3 1 v l.length (ints l)) : NumsF base w v l := by
  by_cases h0 : l.length = 0
  · rcases h.2 with ⟨rfl, _⟩ | ⟨g, cap, cur, rfl, _, _, hc, _⟩
    · exact ⟨none, 0, by rw [h0], by omega, .inl h0⟩
    · exact ⟨_, cap, rfl, hc, .inl h0⟩
  · rcases h.2 with ⟨_, h1⟩ | ⟨g, cap, cur, rfl, hg, _, hc, _⟩
    · exact absurd h1 h0
    · refine ⟨_, cap, rfl, hc, .inr ⟨g, 0, rfl, hg, fun i hi => ?_⟩⟩
      rw [Nat.zero_add, h.cellAt i (by omega)]
      simp [ints, hi]
def GraphF (base : Nat) (w : World) (v : Value) (X : List (List Int)) : Prop :=
  ∃ (a : Option Addr) (c : Nat), v = .slice a X.length c ∧ X.length ≤ c ∧ (X.length = 0 ∨ ∃ b o, a = some ⟨b, o, none⟩ ∧ base ≤ b ∧ ∀ i (h : i < X.length), ∃ u, w.cell? ⟨b, o + i, none⟩ = some u ∧ NumsF base w u X[i])
theorem GraphF.at {base : Nat} {w : World} {v : Value} {X : List (List Int)} (h : GraphF base w v X) : GraphR w v X := by
  obtain ⟨a, c, hv, hl, h0 | ⟨b, o, ha, _, hc⟩⟩ := h
  · exact ⟨a, c, hv, hl, .inl h0⟩
  · refine ⟨a, c, hv, hl, .inr ⟨b, o, ha, fun i hi => ?_⟩⟩
    obtain ⟨u, h1, h2⟩ := hc i hi
    exact ⟨u, h1, h2.at⟩
theorem GraphF.keep {base : Nat} {w w' : World} {v : Value} {X : List (List Int)} (h : GraphF base w v X) (hk : ∀ k, base ≤ k → k < w.heap.size → w'.heap[k]? = w.heap[k]?) : GraphF base w' v X := by
  obtain ⟨a, c, hv, hl, h0 | ⟨b, o, ha, hb, hc⟩⟩ := h
  · exact ⟨a, c, hv, hl, .inl h0⟩
  · refine ⟨a, c, hv, hl, .inr ⟨b, o, ha, hb, fun i hi => ?_⟩⟩
    obtain ⟨u, h1, h2⟩ := hc i hi
    exact ⟨u, (World.cell?_of_block (hk b hb (World.block_lt_of_cell? _ _ h1))).trans h1, h2.keep hk⟩
end Go.Proofs.Ytgphohkofmgdfaa
