import Derived.Test.YtgphohkofmgdfaaCy1
import Derived.Laws.OwnMore
import Derived.Deep.AppendLies
import Derived.Maps.AppendAt
import Derived.IntWalk
namespace Go.Proofs.Ytgphohkofmgdfaa
open Go.RowKit
set_option linter.unusedVariables false
theorem make_rows (t : TypeId) (ht : t = 38 ∨ t = 22) (n : Nat) (hn : n ≤ 2000) (W : World) :
    (Instr.makeSlice t (.int .i64 (n : Int)) (.int .i64 (n : Int))).run Try.prog W = .ok (.slice (some ⟨W.heap.size, 0, none⟩) n n) (W.alloc (.cells (madeCells #[.slice none 0 0] n) 25)) := by
  rcases ht with rfl | rfl
  · exact run_make_row' (P := Try.prog) 38 25 (.slice none 0 0) 24 Try.underlying38 (by kernel_rfl) rfl .i64 .i64 n (by omega) (by omega) W
  · exact run_make_row' (P := Try.prog) 22 25 (.slice none 0 0) 24 Try.underlying22 (by kernel_rfl) rfl .i64 .i64 n (by omega) (by omega) W
/-- Rows of numbers that are being built, each in a block of its own, none of them the others' block. -/
structure OutAt (W : World) (B n b : Nat) (V : Nat → Value) (X : Nat → List Int) : Prop where
  base : B < b
  row : ∃ cs, W.heap[B]? = some (.cells cs 25 (0, 0)) ∧ cs.size = n ∧ ∀ j, j < n → cs[j]? = some (V j)
  own : ∀ j, j < n → W.ownsRow b 3 1 (V j) (X j).length (ints (X j))
  apart : ∀ i j, i < n → j < n → i ≠ j → (V i).ownBlock = none ∨ (V i).ownBlock ≠ (V j).ownBlock
theorem OutAt.lt {W : World} {B n b : Nat} {V : Nat → Value} {X : Nat → List Int} (h : OutAt W B n b V X) : B < W.heap.size := by
  obtain ⟨cs, h1, _⟩ := h.row
  exact (Array.getElem?_eq_some_iff.1 h1).1
theorem OutAt.cell {W : World} {B n b : Nat} {V : Nat → Value} {X : Nat → List Int} (h : OutAt W B n b V X) {k : Nat} (hk : k < n) : W.cell? ⟨B, k, none⟩ = some (V k) ∧ W.frozen? ⟨B, k, none⟩ = false := by
  obtain ⟨cs, h1, h2, h3⟩ := h.row
  exact ⟨by rw [cell_of_row _ _ _ _ _ _ h1]; exact h3 k hk, frozen_of_row _ _ _ _ _ h1⟩
theorem out_new (w : World) (n : Nat) : OutAt (w.alloc (.cells (madeCells #[.slice none 0 0] n) 25)) w.heap.size n (w.heap.size + 1) (fun _ => .slice none 0 0) (fun _ => []) := by
  refine ⟨by omega, ⟨_, heap_alloc_new w _, by simp [madeCells], fun j hj => ?_⟩, fun j _ => World.ownsRow_nil _ _ _ _, fun i j _ _ _ => .inl rfl⟩
  simp [madeCells, hj, Nat.mod_one]
theorem OutAt.below {W W' : World} {B n b : Nat} {V : Nat → Value} {X : Nat → List Int} (h : OutAt W B n b V X) (hb : Below W.heap.size W W') : OutAt W' B n b V X := by
  obtain ⟨cs, h1, h2, h3⟩ := h.row
  exact ⟨h.base, ⟨cs, (hb.block B h.lt).trans h1, h2, h3⟩, fun j hj => owns_below0 (h.own j hj) hb, h.apart⟩
/-- Row k turns, and is stored. -/
theorem OutAt.put {W W1 : World} {B n b k : Nat} {V : Nat → Value} {X : Nat → List Int} (h : OutAt W B n b V X) (hk : k < n) {v : Value} {x : List Int} (hv : W1.ownsRow b 3 1 v x.length (ints x)) (hg : W.grownBy W1 (V k).ownBlock) (hb : v.ownBlock = (V k).ownBlock ∨ v.ownBlock = some W.heap.size) :
    OutAt (W1.setCell ⟨B, k, none⟩ v) B n b (fun j => if j = k then v else V j) (fun j => if j = k then x else X j) := by
  have hbase := h.base
  obtain ⟨cs, h1, h2, h3⟩ := h.row
  have hne : (V k).ownBlock ≠ some B := fun e => by
    rcases (h.own k hk).2 with ⟨e2, _⟩ | ⟨g, cap, cur, e2, hg2, _⟩
    · rw [e2] at e; cases e
    · rw [e2] at e; simp [Value.ownBlock] at e; omega
  have hB1 : W1.heap[B]? = some (.cells cs 25 (0, 0)) := (hg.block B h.lt (fun e => hne e.symm)).trans h1
  have hvB : ∀ {v : Value} {m : Nat} {xs : List Value} {U : World}, U.ownsRow b 3 1 v m xs → ∀ g, v.ownBlock = some g → B < g := fun h g e => by
    rcases h.2 with ⟨e2, _⟩ | ⟨g2, cap, cur, e2, hg2, _⟩
    · rw [e2] at e; cases e
    · rw [e2] at e; simp [Value.ownBlock] at e; omega
  have hset : ∀ {v2 : Value} {m : Nat} {xs : List Value}, W1.ownsRow b 3 1 v2 m xs → (W1.setCell ⟨B, k, none⟩ v).ownsRow b 3 1 v2 m xs := fun h => by
    refine ⟨h.1, ?_⟩
    rcases h.2 with h0 | ⟨g, cap, cur, e1, e2, e3, e4⟩
    · exact .inl h0
    · exact .inr ⟨g, cap, cur, e1, e2, (heap_setCell_other _ _ _ _ (by show g ≠ B; omega)).trans e3, e4⟩
  refine ⟨hbase, ⟨cs.setIfInBounds k v, heap_setCell_same _ B k _ _ v hB1, by simp [h2], fun j hj => ?_⟩, fun j hj => ?_, fun i j hi hj hij => ?_⟩
  · by_cases e : j = k
    · subst e
      simp [h2, hj]
    · simp only [if_neg e]
      rw [Array.getElem?_setIfInBounds_ne (fun e2 => e e2.symm)]
      exact h3 j hj
  · by_cases e : j = k
    · simp only [if_pos e]
      exact hset hv
    · simp only [if_neg e]
      refine hset ((h.own j hj).kept hg ?_)
      rcases h.apart j k hj hk e with h0 | h0
      · exact .inl h0
      · exact .inr h0
  · have hlt : ∀ j, j < n → ∀ g, (V j).ownBlock = some g → g < W.heap.size := fun j hj g e => by
      rcases (h.own j hj).2 with ⟨e2, _⟩ | ⟨g2, cap, cur, e2, _, hb2, _⟩
      · rw [e2] at e; cases e
      · rw [e2] at e
        simp [Value.ownBlock] at e
        subst e
        exact (Array.getElem?_eq_some_iff.1 hb2).1
    by_cases e1 : i = k
    · have e2 : j ≠ k := fun e => hij (e1.trans e.symm)
      simp only [if_pos e1, if_neg e2]
      rcases hb with hb | hb
      · rw [hb, ← e1]
        exact h.apart i j hi hj hij
      · right
        rw [hb]
        intro e
        have := hlt j hj _ e.symm
        omega
    · by_cases e2 : j = k
      · simp only [if_neg e1, if_pos e2]
        rcases hb with hb | hb
        · rw [hb, ← e2]
          exact h.apart i j hi hj hij
        · right
          rw [hb]
          intro e
          have := hlt i hi _ e
          omega
      · simp only [if_neg e1, if_neg e2]
        exact h.apart i j hi hj hij
theorem OutAt.far {W : World} {B n b : Nat} {V : Nat → Value} {X : Nat → List Int} (h : OutAt W B n b V X) {k : Nat} (hk : k < n) : some B ≠ (V k).ownBlock := fun e => by
  have hbase := h.base
  rcases (h.own k hk).2 with ⟨e2, _⟩ | ⟨g, cap, cur, e2, hg2, _⟩
  · rw [e2] at e; cases e
  · rw [e2] at e; simp [Value.ownBlock] at e; omega
/-- While row k turns, the cells are as they were. -/
theorem OutAt.held {W W1 : World} {B n b k j : Nat} {V : Nat → Value} {X : Nat → List Int} (h : OutAt W B n b V X) (hk : k < n) (hj : j < n) (hg : W.grownBy W1 (V k).ownBlock) : W1.cell? ⟨B, j, none⟩ = some (V j) ∧ W1.frozen? ⟨B, j, none⟩ = false :=
  ⟨(hg.cell_far ⟨B, j, none⟩ h.lt (h.far hk)).trans (h.cell hj).1, (hg.frozen_far ⟨B, j, none⟩ h.lt (h.far hk)).trans (h.cell hj).2⟩
/-- What row k's turning leaves below. -/
theorem OutAt.keeps {w W W1 : World} {B n b k : Nat} {V : Nat → Value} {X : Nat → List Int} (h : OutAt W B n b V X) (hk : k < n) (hw : w.heap.size ≤ B) (hb : Below w.heap.size w W) (hg : W.grownBy W1 (V k).ownBlock) (v : Value) : Below w.heap.size w (W1.setCell ⟨B, k, none⟩ v) := by
  have hbase := h.base
  refine Below.setCell (p := ⟨B, k, none⟩) ?_ hw _
  refine hb.grown hg hb.size fun g e => ?_
  rcases (h.own k hk).2 with ⟨e2, _⟩ | ⟨g2, cap, cur, e2, hg2, _⟩
  · rw [e2] at e; cases e
  · rw [e2] at e; simp [Value.ownBlock] at e; omega
/-- .. and blocks ahead of the rows stay as they are. -/
theorem OutAt.stays {W W1 : World} {B n b k : Nat} {V : Nat → Value} {X : Nat → List Int} (h : OutAt W B n b V X) (hk : k < n) (hg : W.grownBy W1 (V k).ownBlock) (v : Value) {i : Nat} (h1 : i ≠ B) (h2 : i < b) (h3 : i < W.heap.size) : (W1.setCell ⟨B, k, none⟩ v).heap[i]? = W.heap[i]? := by
  refine (heap_setCell_other _ _ _ _ (by show i ≠ B; exact h1)).trans (hg.block i h3 fun e => ?_)
  rcases (h.own k hk).2 with ⟨e2, _⟩ | ⟨g2, cap, cur, e2, hg2, _⟩
  · rw [e2] at e; cases e
  · rw [e2] at e; simp [Value.ownBlock] at e; omega
theorem OutAt.rebase {W : World} {B n b b2 : Nat} {V : Nat → Value} {X : Nat → List Int} (h : OutAt W B n b V X) (hb : B < b2) (hV : ∀ j, j < n → V j = .slice none 0 0) : OutAt W B n b2 V X := by
  refine ⟨hb, h.row, fun j hj => ?_, h.apart⟩
  have h1 := h.own j hj
  rw [hV j hj] at h1 ⊢
  refine ⟨h1.1, .inl ⟨rfl, ?_⟩⟩
  rcases h1.2 with ⟨_, h2⟩ | ⟨g, cap, cur, e, _⟩
  · exact h2
  · cases e
/-- All rows are built: a graph that can be read. -/
theorem OutAt.graph {W : World} {B n b : Nat} {V : Nat → Value} {X : Nat → List Int} (h : OutAt W B n b V X) {L : List (List Int)} (hL : L.length = n) (hX : ∀ j (hj : j < L.length), L[j] = X j) : GraphF B W (.slice (some ⟨B, 0, none⟩) n n) L := by
  subst hL
  refine ⟨_, _, rfl, Nat.le_refl _, .inr ⟨B, 0, rfl, Nat.le_refl _, fun i hi => ⟨V i, ?_, ?_⟩⟩⟩
  · rw [Nat.zero_add]; exact (h.cell hi).1
  · rw [hX i hi]; exact (numsF_owned (h.own i hi)).mono (Nat.le_of_lt h.base)
theorem OutAt.lift {W : World} {B n b : Nat} {V V2 : Nat → Value} {X X2 : Nat → List Int} (h : OutAt W B n b V X) (hV : ∀ j, j < n → V2 j = V j) (hX : ∀ j, j < n → X2 j = X j) : OutAt W B n b V2 X2 := by
  obtain ⟨cs, h1, h2, h3⟩ := h.row
  refine ⟨h.base, ⟨cs, h1, h2, fun j hj => (h3 j hj).trans (by rw [hV j hj])⟩, fun j hj => ?_, fun i j hi hj hij => ?_⟩
  · rw [hV j hj, hX j hj]; exact h.own j hj
  · rw [hV i hi, hV j hj]; exact h.apart i j hi hj hij
end Go.Proofs.Ytgphohkofmgdfaa
