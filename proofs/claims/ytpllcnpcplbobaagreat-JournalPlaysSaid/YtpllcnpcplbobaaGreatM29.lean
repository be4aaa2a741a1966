import Derived.Test.YtpllcnpcplbobaaGreatM28
import Derived.Test.YtpllcnpcplbobaaGreatM22
namespace Go.Proofs.YtpllcnpcplbobaaGreat
open Go.RowKit
set_option linter.unusedVariables false
set_option maxRecDepth 100000 in
set_option maxHeartbeats 1000000 in
theorem rfr_any (va : Value) (A : List ByteArray) (hAm : A.length ≤ 12) (hs : ∀ x ∈ A, x.size ≤ 100) (w : World) (hA : TextsAt w va A) :
    Calls Tryz.prog 41 #[va] w fun e w' => e = .returned (.tuple #[.string (framesL A), .int .i64 0]) ∧ Below w.heap.size w w' := by
  obtain ⟨a, ca, rfl, ha⟩ := hA
  have HA := Lib.hid ha
  have HS := Lib.hid hs
  obtain ⟨n, hn⟩ : ∃ n, n = A.length := ⟨_, rfl⟩
  rw [← hn] at hAm ⊢
  have HN := Lib.hid hn
  clear ha hn hs
  go_enter Tryz.func41, Tryz.ntmps41
  go_wp2_with fail
  go_loopw [4, 10] (fun s i wr => ∃ k : Nat, k ≤ n ∧ i = .int .i64 k ∧ s = .string (framesL (A.take k)) ∧ Below w.heap.size w wr) (fun _ i _ => n - (intOf i).toNat)
  case atStart => exact ⟨0, by omega, rfl, rfl, Below.refl _ _⟩
  case round =>
    obtain ⟨k, hk, rfl, rfl, hbel⟩ := hrel
    by_cases hlt : k < n
    · have hAk : k < A.length := by rw [← HN.out]; exact hlt
      rcases HA.out with h0 | ⟨b1, o1, rfl, hc1⟩
      · omega
      have d1 : wr.cell? ⟨b1, o1 + k, none⟩ = some (.string A[k]) := (hbel.cell (World.block_lt_of_cell? _ _ (hc1 k hAk))).trans (hc1 k hAk)
      have hx0 : A[k].size ≤ 100 := HS.out _ (List.getElem_mem hAk)
      have htk : framesL (A.take (k + 1)) = framesL (A.take k) ++ frameS A[k] := by rw [List.take_succ_eq_append_getElem hAk, framesL_snoc]
      have hsz : (framesL (A.take k)).size ≤ 112 * 12 := by
        have := framesL_le (A.take k) fun x hx => HS.out x (List.mem_of_mem_take hx)
        rw [List.length_take] at this; omega
      obtain ⟨x, hx⟩ : ∃ x, x = A[k] := ⟨_, rfl⟩
      rw [← hx] at d1 hx0 htk
      have hfx := size_frameS x
      have hf := fun W => rframe_any x W
      rw [show rframeV x = .tuple #[.string (frameS x), .int .i64 0] from if_pos (by omega)] at hf
      have HF := Lib.hid hf
      have HX := Lib.hid hx
      have HT := Lib.hid htk
      clear hc1 HA hx hf htk
      go_wp2_with (go_at_call 37; refine (HF.out _).mono ?_; rintro e w1 ⟨rfl, hb1⟩)
      go_roundw
      case measure => simp [intOf]; omega
      case rel => exact ⟨k + 1, by omega, by go_num, by rw [HT.out], hbel.trans (hb1.mono hbel.size)⟩
    · have hkn : A.take k = A := List.take_of_length_le (by rw [← HN.out]; omega)
      rw [hkn]
      go_wp2
      go_ret2
      exact ⟨rfl, hbel⟩
end Go.Proofs.YtpllcnpcplbobaaGreat
