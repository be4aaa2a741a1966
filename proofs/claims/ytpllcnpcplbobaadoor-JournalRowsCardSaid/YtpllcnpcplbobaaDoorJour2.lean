import Derived.Test.YtpllcnpcplbobaaDoorJour1
namespace Go.Proofs.YtpllcnpcplbobaaDoor
open Go.RowKit
/-- A record's frame. -/
def frameS (rec : ByteArray) : ByteArray := strOfNums (headL rec) ++ rec
theorem length_headL (rec : ByteArray) : (headL rec).length = 12 := by
  simp [headL, num4, Sha.length_sum]
theorem size_head (rec : ByteArray) : (strOfNums (headL rec)).size = 12 := by rw [strOfNums_size, length_headL]
theorem size_frameS (rec : ByteArray) : (frameS rec).size = 12 + rec.size := by rw [frameS, ByteArray.size_append, size_head]
/-- What journal.Frame answers. -/
def frameV (rec : ByteArray) : Value := if rec.size ≤ 1048576 then .tuple #[.string (frameS rec), .int .i64 0] else .tuple #[.string ⟨#[]⟩, .int .i64 6]
set_option maxRecDepth 100000 in
theorem frame_any (rec : ByteArray) (w : World) : Calls Tryd.prog 13 #[.string rec] w fun e w' => e = .returned (frameV rec) ∧ Below w.heap.size w w' := by
  go_enter Tryd.func13, Tryd.ntmps13
  by_cases hr : rec.size ≤ 1048576
  · have h12 := size_head rec
    have e1 : frameV rec = .tuple #[.string (strOfNums (headL rec) ++ rec), .int .i64 0] := by rw [frameV, if_pos hr]; rfl
    go_wp2_with (go_at_call 30; refine (heading_any rec (by omega) _).mono ?_; rintro e w1 ⟨rfl, hb1⟩)
    go_ret2
    exact ⟨by rw [e1]; rfl, hb1⟩
  · have e1 : frameV rec = .tuple #[.string ⟨#[]⟩, .int .i64 6] := by rw [frameV, if_neg hr]
    go_wp2_with fail
    go_ret2
    exact ⟨by rw [e1]; rfl, Below.refl _ _⟩
theorem frameV_empty : frameV ⟨#[]⟩ = .tuple #[.string (frameS ⟨#[]⟩), .int .i64 0] := if_pos (by decide)
theorem extract_append_left (a b : ByteArray) (n : Nat) (h : n ≤ a.size) : (a ++ b).extract 0 n = a.extract 0 n := by
  apply ByteArray.ext
  simp only [ByteArray.data_extract, ByteArray.data_append]
  have : n ≤ a.data.size := h
  have h0 : n - a.size = 0 := Nat.sub_eq_zero_of_le h
  simp [Array.extract_append, h0]
theorem extract_strOfNums (l : List Int) (n : Nat) : (strOfNums l).extract 0 n = strOfNums (l.take n) := by
  apply ByteArray.ext
  simp [strOfNums]
set_option maxRecDepth 100000 in
theorem fixed_any (w : World) : Calls Tryd.prog 4 #[] w fun e w' => e = .returned (.bool true) ∧ Below w.heap.size w w' := by
  have h12 : (frameS ⟨#[]⟩).size = 12 := size_frameS _
  have h4 : (frameS ⟨#[]⟩).extract 0 4 = ⟨#[0, 0, 0, 0]⟩ := by
    rw [frameS, extract_append_left _ _ _ (by rw [size_head]; omega), extract_strOfNums, headL, List.take_left']
    · rfl
    · rfl
  go_enter Tryd.func4, Tryd.ntmps4
  go_wp2_with (go_at_call 13; refine (frame_any _ _).mono ?_; rintro e w1 ⟨rfl, hb1⟩; rw [frameV_empty])
  go_ret
  exact ⟨rfl, hb1⟩
end Go.Proofs.YtpllcnpcplbobaaDoor
