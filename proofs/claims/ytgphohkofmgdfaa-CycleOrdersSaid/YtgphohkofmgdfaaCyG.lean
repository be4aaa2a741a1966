import Derived.Test.YtgphohkofmgdfaaRingP
namespace Go.Proofs.Ytgphohkofmgdfaa
open Go.RowKit
set_option linter.unusedVariables false
/-! The chapter's examples. -/
theorem rowO_nil (n : Nat) : rowO n [] = [] := by simp [rowO, rowF, srt, Lib.compact, Lib.compactUpTo]
theorem rowO_one (n : Nat) (x : Int) (h0 : 0 ≤ x) (h1 : x < (n : Int)) : rowO n [x] = [x] := by
  have e : rowF n [x] = [x] := by simp [rowF, h0, h1]
  rw [rowO, e]
  simp [srt, Lib.compact, Lib.compactUpTo, Lib.keeps]
theorem ofX_a : ofX [[2], [], []] = [[2], [], []] := by
  simp only [ofX, List.map_cons, List.map_nil]
  rw [rowO_nil, rowO_one _ _ (by decide) (by decide)]
theorem ofX_b : ofX [[1], [0], []] = [[1], [0], []] := by
  simp only [ofX, List.map_cons, List.map_nil]
  rw [rowO_nil, rowO_one _ _ (by decide) (by decide), rowO_one _ _ (by decide) (by decide)]
theorem out_a : OrderOut (ofX [[2], [], []]) ([[2], [], []] : List (List Int)).length true [1, 2, 0] := by
  rw [ofX_a]
  exact .inl ⟨rfl, by decide⟩
theorem out_b : OrderOut (ofX [[1], [0], []]) ([[1], [0], []] : List (List Int)).length false [] := by
  rw [ofX_b]
  exact .inr ⟨rfl, rfl, by decide⟩
theorem turnX_b : turnX [[1], [0], []] = [[1], [0], []] := by decide
theorem dist_b (tg k : Nat) (h : tg = 0 ∧ k = 1 ∨ tg = 1 ∧ k = 0) : distI [[1], [0], []] tg k = 1 := by
  rcases h with ⟨rfl, rfl⟩ | ⟨rfl, rfl⟩
  · exact distI_some (j := 1) ⟨0, by decide, by decide, rfl⟩ fun j' h => by
      obtain rfl : j' = 0 := by omega
      intro h2
      exact absurd h2 (by show ¬ (1 : Nat) = 0; decide)
  · exact distI_some (j := 1) ⟨1, by decide, by decide, rfl⟩ fun j' h => by
      obtain rfl : j' = 0 := by omega
      intro h2
      exact absurd h2 (by show ¬ (0 : Nat) = 1; decide)
theorem ring_b : ringS (ofX [[1], [0], []]) (turnX (ofX [[1], [0], []])) ([[1], [0], []] : List (List Int)).length = [0, 1] := by
  have hd01 := dist_b 0 1 (.inl ⟨rfl, rfl⟩)
  have hd10 := dist_b 1 0 (.inr ⟨rfl, rfl⟩)
  have hnod : Nodes 3 [[1], [0], []] := ⟨rfl, by decide⟩
  have hr : Rising [[1], [0], []] := by unfold Rising; decide
  rw [ofX_b]
  have hT : Nodes 3 (turnX [[1], [0], []]) := by rw [turnX_b]; exact hnod
  show ringS [[1], [0], []] (turnX [[1], [0], []]) 3 = _
  unfold ringS
  rw [show List.range 3 = [0, 1, 2] from rfl]
  simp only [List.foldl_cons, List.foldl_nil]
  have h0 : ringRow [[1], [0], []] (turnX [[1], [0], []]) 3 [] 0 = [0, 1] := by
    show ringStep _ _ 3 0 [] 1 = _
    unfold ringStep
    rw [turnX_b, show (1 : Int).toNat = 1 from rfl, hd01, if_neg (by simp)]
    unfold ringOf
    rw [if_neg (by decide), hd01]
    have hst : stepsS [[1], [0], []] 3 0 = [0, 1, distI [[1], [0], []] 0 2] := by
      unfold stepsS
      rw [show List.range 3 = [0, 1, 2] from rfl]
      simp only [List.map_cons, List.map_nil, hd01, (distI_zero [[1], [0], []] 0 0).2 rfl]
    rw [hst]
    rfl
  rw [h0]
  have h1 : ringRow [[1], [0], []] (turnX [[1], [0], []]) 3 [0, 1] 1 = [0, 1] := by
    show ringStep _ _ 3 1 [0, 1] 0 = _
    unfold ringStep
    rw [turnX_b, show (0 : Int).toNat = 0 from rfl, hd10, if_pos (by simp)]
  rw [h1]
  rfl
/-! Graphs that the law writes out. -/
theorem nums_none (w : World) (a : Option Addr) (c : Nat) : NumsR w (.slice a 0 c) [] := ⟨a, c, rfl, Nat.zero_le _, .inl rfl⟩
theorem graph_three {w : World} {u0 u1 u2 : Value} {l0 l1 l2 : List Int} (h0 : NumsR w u0 l0) (h1 : NumsR w u1 l1) (h2 : NumsR w u2 l2) : GraphR (w.alloc (.cells #[u0, u1, u2] 25)) (.slice (some ⟨w.heap.size, 0, none⟩) 3 3) [l0, l1, l2] := by
  have hb : Below w.heap.size w (w.alloc (.cells #[u0, u1, u2] 25)) := (Below.refl _ _).alloc (Nat.le_refl _) _
  have hc : ∀ i, (w.alloc (.cells #[u0, u1, u2] 25)).cell? ⟨w.heap.size, i, none⟩ = (#[u0, u1, u2] : Array Value)[i]? := fun i => cell_of_row _ _ _ _ _ _ (heap_alloc_new w _)
  refine ⟨_, 3, rfl, Nat.le_refl _, .inr ⟨_, 0, rfl, fun i hi => ?_⟩⟩
  simp only [List.length_cons, List.length_nil] at hi
  rw [Nat.zero_add, hc]
  match i, hi with
  | 0, _ => exact ⟨u0, rfl, h0.below hb⟩
  | 1, _ => exact ⟨u1, rfl, h1.below hb⟩
  | 2, _ => exact ⟨u2, rfl, h2.below hb⟩
theorem nums_three (w : World) (x y z : Int) : NumsR (w.alloc (.cells #[.int .i64 x, .int .i64 y, .int .i64 z] 3)) (.slice (some ⟨w.heap.size, 0, none⟩) 3 3) [x, y, z] := by
  have hc : ∀ i, (w.alloc (.cells #[.int .i64 x, .int .i64 y, .int .i64 z] 3)).cell? ⟨w.heap.size, i, none⟩ = (#[.int .i64 x, .int .i64 y, .int .i64 z] : Array Value)[i]? := fun i => cell_of_row _ _ _ _ _ _ (heap_alloc_new w _)
  refine ⟨_, 3, rfl, Nat.le_refl _, .inr ⟨_, 0, rfl, fun i hi => ?_⟩⟩
  simp only [List.length_cons, List.length_nil] at hi
  rw [Nat.zero_add, hc]
  match i, hi with
  | 0, _ => rfl
  | 1, _ => rfl
  | 2, _ => rfl
theorem nums_two (w : World) (x y : Int) : NumsR (w.alloc (.cells #[.int .i64 x, .int .i64 y] 3)) (.slice (some ⟨w.heap.size, 0, none⟩) 2 2) [x, y] := by
  have hc : ∀ i, (w.alloc (.cells #[.int .i64 x, .int .i64 y] 3)).cell? ⟨w.heap.size, i, none⟩ = (#[.int .i64 x, .int .i64 y] : Array Value)[i]? := fun i => cell_of_row _ _ _ _ _ _ (heap_alloc_new w _)
  refine ⟨_, 2, rfl, Nat.le_refl _, .inr ⟨_, 0, rfl, fun i hi => ?_⟩⟩
  simp only [List.length_cons, List.length_nil] at hi
  rw [Nat.zero_add, hc]
  match i, hi with
  | 0, _ => rfl
  | 1, _ => rfl
theorem NumsR.alloc {w : World} {v : Value} {l : List Int} (h : NumsR w v l) (b : Obj) : NumsR (w.alloc b) v l := h.below ((Below.refl _ _).alloc (Nat.le_refl _) _)
theorem g_a (w : World) (x : Int) : ∀ v, v = Value.slice (some ⟨w.heap.size + 1 + 1 + 1, 0, none⟩) 3 3 → GraphR ((((w.alloc (.cells #[.int .i64 x] 3)).alloc (.cells #[] 3)).alloc (.cells #[] 3)).alloc (.cells #[.slice (some ⟨w.heap.size, 0, none⟩) 1 1, .slice (some ⟨w.heap.size + 1, 0, none⟩) 0 0, .slice (some ⟨w.heap.size + 1 + 1, 0, none⟩) 0 0] 25)) v [[x], [], []] := fun v hv => by
  subst hv
  have h := graph_three (((nums_one w x).alloc (.cells #[] 3)).alloc (.cells #[] 3)) (nums_none _ (some ⟨w.heap.size + 1, 0, none⟩) 0) (nums_none _ (some ⟨w.heap.size + 1 + 1, 0, none⟩) 0)
  have s : (((w.alloc (.cells #[.int .i64 x] 3)).alloc (.cells #[] 3)).alloc (.cells #[] 3)).heap.size = w.heap.size + 1 + 1 + 1 := by simp
  rw [s] at h
  exact h
theorem g_b (w : World) (x y : Int) : ∀ v, v = Value.slice (some ⟨w.heap.size + 1 + 1 + 1, 0, none⟩) 3 3 → GraphR ((((w.alloc (.cells #[.int .i64 x] 3)).alloc (.cells #[.int .i64 y] 3)).alloc (.cells #[] 3)).alloc (.cells #[.slice (some ⟨w.heap.size, 0, none⟩) 1 1, .slice (some ⟨w.heap.size + 1, 0, none⟩) 1 1, .slice (some ⟨w.heap.size + 1 + 1, 0, none⟩) 0 0] 25)) v [[x], [y], []] := fun v hv => by
  subst hv
  have h2 := nums_one (w.alloc (.cells #[.int .i64 x] 3)) y
  have s0 : (w.alloc (.cells #[.int .i64 x] 3)).heap.size = w.heap.size + 1 := by simp
  rw [s0] at h2
  have h := graph_three (((nums_one w x).alloc (.cells #[.int .i64 y] 3)).alloc (.cells #[] 3)) (h2.alloc (.cells #[] 3)) (nums_none _ (some ⟨w.heap.size + 1 + 1, 0, none⟩) 0)
  have s : (((w.alloc (.cells #[.int .i64 x] 3)).alloc (.cells #[.int .i64 y] 3)).alloc (.cells #[] 3)).heap.size = w.heap.size + 1 + 1 + 1 := by simp
  rw [s] at h
  exact h
theorem below_al {a w : World} (h : Below a.heap.size a w) (b : Obj) : Below a.heap.size a (w.alloc b) := h.alloc h.size b
theorem below_cat {a w w' : World} (h : Below a.heap.size a w) (k : Below w.heap.size w w') : Below a.heap.size a w' := h.trans (k.mono h.size)
set_option maxRecDepth 100000 in
set_option maxHeartbeats 4000000 in
theorem alive_any (w : World) : Calls Try.prog 8 #[] w fun e w' => e = .returned (.bool true) ∧ Below w.heap.size w w' := by
  have h1 := fun va W h => order_any va [[2], [], []] (by decide) (by decide) true [1, 2, 0] out_a W h
  have h2 := fun va W h => order_any va [[1], [0], []] (by decide) (by decide) false [] out_b W h
  have h3 := fun va W h => ring_any va [[1], [0], []] (by decide) (by decide) W h
  rw [ring_b] at h3
  have h4 := fun va vb W h5 h6 => same_any va vb [1, 2, 0] [1, 2, 0] (by decide) (by decide) W h5 h6
  have h5 := fun va vb W h5 h6 => same_any va vb [0, 1] [0, 1] (by decide) (by decide) W h5 h6
  rw [show decide (([1, 2, 0] : List Int) = [1, 2, 0]) = true from rfl] at h4
  rw [show decide (([0, 1] : List Int) = [0, 1]) = true from rfl] at h5
  have H1 := Lib.hid h1
  have H2 := Lib.hid h2
  have H3 := Lib.hid h3
  have H4 := Lib.hid h4
  have H5 := Lib.hid h5
  clear h1 h2 h3 h4 h5
  go_enter Try.func8, Try.ntmps8
  go_wp2_with (first
    | (go_at_call 12; have N4g := N4.out; clear N4g; refine (H5.out _ _ _ (N4.out.alloc _) (nums_two _ _ _)).mono ?_; rintro e w5 ⟨rfl, hb5⟩; have B5 := Lib.hid (below_cat (below_al B4.out _) hb5); clear hb5)
    | (go_at_call 13; refine (H3.out _ _ (g_b _ _ _ _ rfl)).mono ?_; rintro e w4 ⟨v4, rfl, hn4, hb4⟩; have N4 := Lib.hid hn4; have B4 := Lib.hid (below_cat (below_al (below_al (below_al (below_al B3.out _) _) _) _) hb4); obtain ⟨a4, c4, hv4, _⟩ := hn4; subst hv4; clear hb4)
    | (go_at_call 12; refine (H4.out _ _ _ (N2.out.alloc _) (nums_three _ _ _ _)).mono ?_; rintro e w3 ⟨rfl, hb3⟩; have B3 := Lib.hid (below_cat (below_al B2.out _) hb3); clear hb3)
    | (go_at_call 10; have N1g := N1.out; clear N1g; refine (H2.out _ _ (g_b _ _ _ _ rfl)).mono ?_; rintro e w2 ⟨v2, rfl, hn2, hb2⟩; have N2 := Lib.hid (((((N1.out.alloc _).alloc _).alloc _).alloc _).below hb2); have B2 := Lib.hid (below_cat (below_al (below_al (below_al (below_al B1.out _) _) _) _) hb2); clear hb2 hn2)
    | (go_at_call 10; refine (H1.out _ _ (g_a _ _ _ rfl)).mono ?_; rintro e w1 ⟨v1, rfl, hn1, hb1⟩; have N1 := Lib.hid hn1; have B1 := Lib.hid (below_cat (below_al (below_al (below_al (below_al (Below.refl _ _) _) _) _) _) hb1); obtain ⟨a1, c1, hv1, _⟩ := hn1; subst hv1; clear hb1))
  go_ret
  exact ⟨rfl, B5.out⟩
end Go.Proofs.Ytgphohkofmgdfaa
