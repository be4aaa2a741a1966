import Derived.Test.YtpllcnpcplbobaaDisk7
import Derived.WalkLawsBesides
namespace Go.Proofs.Ytpllcnpcplbobaa
open Go.RowKit Go.Maps
/-! The reference's disk: a list of files: name, bytes, how many are sure. -/
abbrev RF := ByteArray × ByteArray × Int
def RF.cells (f : RF) : List Value := [.string f.1, .string f.2.1, .int .i64 f.2.2]
def rcells (l : List RF) : List Value := l.flatMap RF.cells
theorem rcells_nil : rcells [] = [] := rfl
theorem rcells_snoc (l : List RF) (f : RF) : rcells (l ++ [f]) = rcells l ++ f.cells := by simp [rcells]
theorem rcells_cons (l : List RF) (f : RF) : rcells (f :: l) = f.cells ++ rcells l := by simp [rcells]
theorem length_rcells : ∀ l : List RF, (rcells l).length = l.length * 3
  | [] => rfl
  | f :: l => by rw [rcells_cons, List.length_append, length_rcells l]; simp [RF.cells]; omega
theorem rcells_get : ∀ (l : List RF) (i : Nat) (h : i < l.length) (j : Nat), j < 3 → (rcells l)[i * 3 + j]? = (l[i]).cells[j]?
  | f :: l, 0, _, j, hj => by
    rw [rcells_cons, List.getElem?_append_left (by simp [RF.cells]; omega)]
    simp
  | f :: l, i + 1, h, j, hj => by
    have h' : i < l.length := by simpa using h
    rw [rcells_cons, List.getElem?_append_right (by simp [RF.cells]; omega)]
    have e : (i + 1) * 3 + j - f.cells.length = i * 3 + j := by simp [RF.cells]; omega
    rw [e, rcells_get l i h' j hj]
    simp
/-- A slice of files, as it can be read. -/
def FilesAt (w : World) (v : Value) (l : List RF) : Prop :=
  ∃ (a : Option Addr) (c : Nat), v = .slice a l.length c ∧ (l.length = 0 ∨ ∃ b o, a = some ⟨b, o, none⟩ ∧ ∀ i (h : i < l.length) j u, (l[i]).cells[j]? = some u → w.cell? ⟨b, o + i * 3 + j, none⟩ = some u)
theorem FilesAt.below {w w' : World} {v : Value} {l : List RF} (h : FilesAt w v l) (hb : Below w.heap.size w w') : FilesAt w' v l := by
  obtain ⟨a, c, hv, h0 | ⟨b, o, ha, hc⟩⟩ := h
  · exact ⟨a, c, hv, .inl h0⟩
  · exact ⟨a, c, hv, .inr ⟨b, o, ha, fun i hi j u hu => (hb.cell (World.block_lt_of_cell? w _ (hc i hi j u hu))).trans (hc i hi j u hu)⟩⟩
theorem filesAt_nil (w : World) : FilesAt w (.slice none 0 0) [] := ⟨none, 0, rfl, .inl rfl⟩
theorem filesAt_owned {w : World} {base : Nat} {v : Value} {l : List RF} (h : w.ownsRow base 91 3 v l.length (rcells l)) : FilesAt w v l := by
  by_cases h0 : l.length = 0
  · rcases h.2 with ⟨rfl, _⟩ | ⟨g, cap, cur, rfl, _⟩
    · exact ⟨none, 0, by rw [h0], .inl h0⟩
    · exact ⟨_, cap, rfl, .inl h0⟩
  · obtain ⟨g, cap, rfl, _, _⟩ := World.ownsRow.form h (by omega)
    refine ⟨_, cap, rfl, .inr ⟨g, 0, rfl, fun i hi j u hu => ?_⟩⟩
    have hj : j < 3 := by have := (List.getElem?_eq_some_iff.1 hu).1; simpa [RF.cells] using this
    have h1 := h.cells (g := g) rfl (i * 3 + j) u (by rw [rcells_get l i hi j hj]; exact hu)
    rw [Addr.add_lit] at h1
    rw [Nat.zero_add] at h1 ⊢
    exact h1
theorem infoFile : (Try.prog.info? 91).map (fun i => (i.zero, i.size, i.bytes)) = some (some (.agg #[.string ⟨#[]⟩, .string ⟨#[]⟩, .int .i64 0]), 3, 40) := by kernel_rfl
theorem rf_one (f : RF) : ∀ u ∈ f.cells, u.oneCell' = true := by
  intro u hu
  simp only [RF.cells, List.mem_cons, List.not_mem_nil, or_false] at hu
  rcases hu with rfl | rfl | rfl <;> rfl
/-- The place of a file; -1: there is none. -/
def AtIs (l : List RF) (x : ByteArray) (i : Int) : Prop :=
  (i = -1 ∧ ∀ j (h : j < l.length), (l[j]).1 ≠ x) ∨ ∃ k, ∃ h : k < l.length, i = (k : Int) ∧ (l[k]).1 = x ∧ ∀ j (hj : j < k), (l[j]'(by omega)).1 ≠ x
set_option maxRecDepth 100000 in
set_option maxHeartbeats 1000000 in
theorem rat_any (va : Value) (l : List RF) (hm : l.length ≤ 1099511627776) (left : Int) (x : ByteArray) (w : World) (hA : FilesAt w va l) :
    Calls Try.prog 54 #[.agg #[va, .int .i64 left], .string x] w fun e w' => (∃ i : Int, e = .returned (.int .i64 i) ∧ AtIs l x i) ∧ Below w.heap.size w w' := by
  obtain ⟨a, ca, rfl, ha⟩ := hA
  obtain ⟨n, hn⟩ : ∃ n, n = l.length := ⟨_, rfl⟩
  rw [← hn] at hm ⊢
  have HA := Lib.hid ha
  have HN := Lib.hid hn
  clear ha hn
  go_enter Try.func54, Try.ntmps54
  go_wp2_with fail
  go_loopw [10] (fun i wr => ∃ k : Nat, k ≤ n ∧ i = .int .i64 k ∧ (∀ j (h : j < k) (h2 : j < l.length), (l[j]).1 ≠ x) ∧ Below w.heap.size w wr) (fun i _ => n - (intOf i).toNat)
  case atStart => exact ⟨0, by omega, rfl, fun j hj => by omega, (Below.refl _ _).alloc (Nat.le_refl _) _⟩
  case round =>
    obtain ⟨k, hk, rfl, hno, hbel⟩ := hrel
    by_cases hlt : k < n
    · have hAk : k < l.length := by rw [← HN.out]; exact hlt
      rcases HA.out with h0 | ⟨b1, o1, rfl, hc1⟩
      · omega
      obtain ⟨f, hf⟩ : ∃ f, f = l[k] := ⟨_, rfl⟩
      have hc := hc1 k hAk
      rw [← hf] at hc
      obtain ⟨fn, fd, fs⟩ := f
      have d0 := hc 0 _ rfl
      have d1 := hc 1 _ rfl
      have d2 := hc 2 _ rfl
      simp only [Nat.add_zero] at d0 d1 d2
      replace d0 := (hbel.cell (World.block_lt_of_cell? w _ d0)).trans d0
      replace d1 := (hbel.cell (World.block_lt_of_cell? w _ d1)).trans d1
      replace d2 := (hbel.cell (World.block_lt_of_cell? w _ d2)).trans d2
      have HNO := Lib.hid hno
      have HF := Lib.hid hf
      have HB := Lib.hid hbel
      clear hno hc1 hc HA hf hbel
      by_cases hxy : fn = x
      · have ht : (fn.toList == x.toList) = true := by rw [text_beq]; exact decide_eq_true hxy
        have HXY := Lib.hid hxy
        clear hxy
        go_wp2
        go_ret
        exact ⟨⟨_, rfl, .inr ⟨k, hAk, rfl, by rw [← HF.out]; exact HXY.out, fun j hj => HNO.out j hj (by omega)⟩⟩, HB.out.alloc HB.out.size _⟩
      · have ht : (fn.toList == x.toList) = false := by rw [text_beq]; exact decide_eq_false hxy
        have HXY := Lib.hid hxy
        clear hxy
        go_wp2
        go_roundw
        case measure => simp [intOf]; omega
        case rel =>
          refine ⟨k + 1, by omega, by go_num, fun j hj h2 => ?_, HB.out.alloc HB.out.size _⟩
          by_cases hjk : j < k
          · exact HNO.out j hjk h2
          · obtain rfl : j = k := by omega
            rw [← HF.out]; exact HXY.out
    · have HNO := Lib.hid hno
      have HB := Lib.hid hbel
      clear hno hbel
      go_wp2
      go_ret
      exact ⟨⟨-1, rfl, .inl ⟨rfl, fun j hj => HNO.out j (by have := HN.out; omega) hj⟩⟩, HB.out⟩
end Go.Proofs.Ytpllcnpcplbobaa
