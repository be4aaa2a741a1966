import Derived.Test.YtpllcnpcplbobaaDoorFiles
import Derived.Test.YtpllcnpcplbobaaDoorTexts
namespace Go.Proofs.YtpllcnpcplbobaaDoor
open Go.RowKit Go.Maps
/-! The disk's own functions. -/
/-- Nothing has turned but the disk's own two blocks. -/
structure Turned (w w' : World) (p b : Nat) : Prop where
  os : w'.os = w.os
  tape : w'.tape = w.tape
  output : w'.output = w.output
  size : w.heap.size ≤ w'.heap.size
  block : ∀ k, k < w.heap.size → k ≠ p → k ≠ b → w'.heap[k]? = w.heap[k]?
theorem Turned.below {w w' : World} {p b B : Nat} (h : Turned w w' p b) (hp : B ≤ p) (hb : B ≤ b) (hB : B ≤ w.heap.size) : Below B w w' :=
  ⟨h.os, h.tape, h.output, h.size, fun k hk => h.block k (by omega) (by omega) (by omega)⟩
theorem turned_of_below {w w' : World} (h : Below w.heap.size w w') (p b : Nat) : Turned w w' p b := ⟨h.os, h.tape, h.output, h.size, fun k hk _ _ => h.block k hk⟩
theorem Turned.trans {w w' w'' : World} {p b : Nat} (h : Turned w w' p b) (k : Turned w' w'' p b) : Turned w w'' p b :=
  ⟨k.os.trans h.os, k.tape.trans h.tape, k.output.trans h.output, Nat.le_trans h.size k.size, fun i hi hp hb => (k.block i (Nat.lt_of_lt_of_le hi h.size) hp hb).trans (h.block i hi hp hb)⟩
/-- A disk at p over the map at b: its files, and how many writing calls may pass. -/
structure DiskAt (w : World) (p b : Nat) (g : FS) (left : Int) (N : Nat) : Prop where
  cells : w.heap[p]? = some (.cells #[.map (some b), .int .i64 left] 44 (0, 0))
  files : MapAt w b N g
theorem DiskAt.lt {w : World} {p b N : Nat} {g : FS} {left : Int} (h : DiskAt w p b g left N) : p < w.heap.size := (Array.getElem?_eq_some_iff.1 h.cells).1
theorem DiskAt.ne {w : World} {p b N : Nat} {g : FS} {left : Int} (h : DiskAt w p b g left N) : p ≠ b := by
  rintro rfl
  obtain ⟨D, ⟨es, clock, hb, _⟩, _⟩ := h.files
  rw [h.cells] at hb
  cases hb
theorem DiskAt.cell0 {w : World} {p b N : Nat} {g : FS} {left : Int} (h : DiskAt w p b g left N) : w.cell? ⟨p, 0, none⟩ = some (.map (some b)) := by rw [cell_of_row _ _ _ _ _ _ h.cells]; rfl
theorem DiskAt.cell1 {w : World} {p b N : Nat} {g : FS} {left : Int} (h : DiskAt w p b g left N) : w.cell? ⟨p, 1, none⟩ = some (.int .i64 left) := by rw [cell_of_row _ _ _ _ _ _ h.cells]; rfl
theorem DiskAt.below {w w' : World} {p b N : Nat} {g : FS} {left : Int} (h : DiskAt w p b g left N) (hb : Below w.heap.size w w') : DiskAt w' p b g left N :=
  ⟨(hb.block p h.lt).trans h.cells, h.files.of_heap (hb.block b h.files.lt)⟩
/-- Another disk's doings leave this one as it is. -/
theorem DiskAt.beside {w w' : World} {p b N p' b' : Nat} {g : FS} {left : Int} (h : DiskAt w p b g left N) (ht : Turned w w' p' b') (h1 : p ≠ p') (h2 : p ≠ b') (h3 : b ≠ p') (h4 : b ≠ b') : DiskAt w' p b g left N :=
  ⟨(ht.block p h.lt h1 h2).trans h.cells, h.files.of_heap (ht.block b h.files.lt h3 h4)⟩
set_option maxRecDepth 100000 in
set_option maxHeartbeats 1000000 in
theorem index_any (va : Value) (A : List ByteArray) (hAm : A.length ≤ 1099511627776) (x : ByteArray) (w : World) (hA : TextsAt w va A) :
    Calls Tryd.prog 44 #[va, .string x] w fun e w' => ∃ i : Int, e = .returned (.int .i64 i) ∧ (0 ≤ i ↔ x ∈ A) ∧ w = w' := by
  obtain ⟨a, ca, rfl, ha⟩ := hA
  obtain ⟨n, hn⟩ : ∃ n, n = A.length := ⟨_, rfl⟩
  rw [← hn] at hAm ⊢
  have HA := Lib.hid ha
  have HN := Lib.hid hn
  clear ha hn
  go_enter Tryd.func44, Tryd.ntmps44
  go_wp2_with fail
  go_loopw [8] (fun i wr => ∃ k : Nat, k ≤ n ∧ i = .int .i64 k ∧ (∀ j, j < k → A[j]? ≠ some x) ∧ wr = w) (fun i _ => n - (intOf i).toNat)
  case atStart => exact ⟨0, by omega, rfl, fun j hj => by omega, rfl⟩
  case round =>
    obtain ⟨k, hk, rfl, hno, rfl⟩ := hrel
    by_cases hlt : k < n
    · have hAk : k < A.length := by rw [← HN.out]; exact hlt
      rcases HA.out with h0 | ⟨b1, o1, rfl, hc1⟩
      · omega
      have d1 : wr.cell? ⟨b1, o1 + k, none⟩ = some (.string A[k]) := hc1 k hAk
      obtain ⟨y, hy⟩ : ∃ y, y = A[k] := ⟨_, rfl⟩
      rw [← hy] at d1
      have HNO := Lib.hid hno
      have HY := Lib.hid hy
      clear hno hc1 HA hy
      by_cases hxy : x = y
      · have ht : (x.toList == y.toList) = true := by rw [text_beq]; exact decide_eq_true hxy
        have HXY := Lib.hid hxy
        clear hxy
        go_wp2
        go_ret
        exact ⟨_, rfl, ⟨fun _ => by rw [HXY.out, HY.out]; exact List.getElem_mem hAk, fun _ => by omega⟩, rfl⟩
      · have ht : (x.toList == y.toList) = false := by rw [text_beq]; exact decide_eq_false hxy
        have HXY := Lib.hid hxy
        clear hxy
        go_wp2
        go_roundw
        case measure => simp [intOf]; omega
        case rel =>
          refine ⟨k + 1, by omega, by go_num, fun j hj => ?_, by first | rfl | trivial⟩
          by_cases hjk : j < k
          · exact HNO.out j hjk
          · obtain rfl : j = k := by omega
            rw [List.getElem?_eq_getElem hAk, ← HY.out]
            exact fun e => HXY.out (Option.some.inj e).symm
    · have hni : ¬ x ∈ A := fun hx => by
        obtain ⟨j, hj, e⟩ := List.getElem_of_mem hx
        exact hno j (by rw [← HN.out] at hj; omega) (by rw [List.getElem?_eq_getElem hj, e])
      clear hno
      go_wp2
      go_ret
      exact ⟨-1, rfl, ⟨fun h => by omega, fun h => absurd h hni⟩, rfl⟩
def memB (x : ByteArray) (l : List ByteArray) : Bool := l.any fun y => decide (y = x)
theorem memB_iff {x : ByteArray} {l : List ByteArray} : memB x l = true ↔ x ∈ l := by
  unfold memB
  rw [List.any_eq_true]
  constructor
  · rintro ⟨y, hy, h⟩
    rw [← of_decide_eq_true h]; exact hy
  · exact fun h => ⟨x, h, decide_eq_true rfl⟩
set_option maxRecDepth 100000 in
theorem contains_any (va : Value) (A : List ByteArray) (hAm : A.length ≤ 1099511627776) (x : ByteArray) (w : World) (hA : TextsAt w va A) :
    Calls Tryd.prog 32 #[va, .string x] w fun e w' => e = .returned (.bool (memB x A)) ∧ w = w' := by
  have hi := index_any va A hAm x w hA
  go_enter Tryd.func32, Tryd.ntmps32
  go_wp2_with (go_at_call 44; refine hi.mono ?_; rintro e w1 ⟨i, rfl, hmem, rfl⟩)
  go_ret
  refine ⟨?_, rfl⟩
  have e : decide (0 ≤ i) = memB x A := by
    by_cases h : 0 ≤ i
    · rw [decide_eq_true h, memB_iff.2 (hmem.1 h)]
    · rw [decide_eq_false h]
      cases hm : memB x A with
      | false => rfl
      | true => exact absurd (hmem.2 (memB_iff.1 hm)) h
  rw [← e]
  rfl
set_option maxRecDepth 100000 in
theorem new_disk (w : World) : Calls Tryd.prog 5 #[] w fun e w' => ∃ p b, e = .returned (.pointer (some ⟨p, 0, none⟩)) ∧ DiskAt w' p b (fun _ => none) (-1) 0 ∧ Below w.heap.size w w' ∧ w.heap.size ≤ p ∧ w.heap.size ≤ b ∧ p ≠ b := by
  have hmm := @run_makeMap Tryd.prog
  go_enter Tryd.func5, Tryd.ntmps5
  go_wp2
  go_ret
  have e : (w.alloc (.map #[] 0)).heap.size = w.heap.size + 1 := by simp
  refine ⟨_, w.heap.size, rfl, ⟨?_, ?_⟩, (((Below.refl _ _).alloc (Nat.le_refl _) _).alloc (by simp) _), by omega, Nat.le_refl _, by omega⟩
  · exact heap_alloc2_new w (.map #[] 0) (.cells #[.map (some w.heap.size), .int .i64 (-1)] 44)
  · exact (mapAt_new w).of_heap (heap_alloc_old _ _ (by simp))
end Go.Proofs.YtpllcnpcplbobaaDoor
