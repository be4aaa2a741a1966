import Derived.Test.YtpllcnpcplbobaaActs
import Derived.Deep.LoopGhost
namespace Go.Proofs.Ytpllcnpcplbobaa
open Go.RowKit
def ActL.weight (x : ActL) : Nat := x.name.size + x.to_.size + x.data.size + x.picks.length + 1
def sumW : List ActL → Nat
  | [] => 0
  | x :: l => x.weight + sumW l
theorem sumW_snoc (l : List ActL) (x : ActL) : sumW (l ++ [x]) = sumW l + x.weight := by
  induction l with
  | nil => simp [sumW]
  | cons a l ih => rw [List.cons_append, sumW, ih, sumW]; omega
theorem sumW_take (l : List ActL) : ∀ k, sumW (l.take k) ≤ sumW l := fun k => by
  induction l generalizing k with
  | nil => simp [sumW]
  | cons a l ih =>
    cases k with
    | zero => simp [sumW]
    | succ k => rw [List.take_succ_cons, sumW, sumW]; have := ih k; omega
/-- What Great answers. -/
def greatN (l : List ActL) : Int := if 3000 < sumW l then 1 else 0
theorem length_le_sumW : ∀ l : List ActL, l.length ≤ sumW l
  | [] => Nat.le_refl _
  | x :: l => by have := length_le_sumW l; simp only [List.length_cons, sumW, ActL.weight]; omega
set_option maxRecDepth 100000 in
set_option maxHeartbeats 1000000 in
theorem great7_any (va : Value) (A : List ActL) (hAm : A.length ≤ 140737488351232) (w : World) (hA : ActsAt w va A) :
    Calls Try.prog 28 #[va] w fun e w' => e = .returned (.int .i64 (greatN A)) ∧ Below w.heap.size w w' := by
  obtain ⟨a, ca, rfl, ha⟩ := hA
  have HA := Lib.hid ha
  obtain ⟨n, hn⟩ : ∃ n, n = A.length := ⟨_, rfl⟩
  rw [← hn] at hAm ⊢
  have HN := Lib.hid hn
  clear ha hn
  go_enter Try.func28, Try.ntmps28
  go_wp2_with fail
  go_loopw [3, 8] (fun s i wr => ∃ k : Nat, k ≤ n ∧ i = .int .i64 k ∧ s = .int .i64 (sumW (A.take k) : Nat) ∧ sumW (A.take k) ≤ 3000 ∧ Below w.heap.size w wr) (fun _ i _ => n - (intOf i).toNat)
  case atStart => exact ⟨0, by omega, rfl, rfl, by simp [sumW], Below.refl _ _⟩
  case round =>
    obtain ⟨k, hk, rfl, rfl, hsm, hbel⟩ := hrel
    by_cases hlt : k < n
    · have hAk : k < A.length := by rw [← HN.out]; exact hlt
      rcases HA.out with h0 | ⟨b1, o1, rfl, hc1⟩
      · omega
      obtain ⟨x, hx⟩ : ∃ x, x = A[k] := ⟨_, rfl⟩
      have hat := (hc1 k hAk).below hbel
      rw [← hx] at hat
      have htk : sumW (A.take (k + 1)) = sumW (A.take k) + x.weight := by rw [List.take_succ_eq_append_getElem hAk, sumW_snoc, hx]
      have hle := sumW_take A (k + 1)
      obtain ⟨kd, nn, nm, tn, dt, pv, pk⟩ := x
      obtain ⟨hcell, hnum, hfit⟩ := hat
      unfold NumsAt at hnum
      dsimp only at hnum
      obtain ⟨pa, pc, hpv, hpc, _⟩ := hnum
      subst hpv
      have d0 := hcell 0 _ rfl
      have d1 := hcell 1 _ rfl
      have d2 := hcell 2 _ rfl
      have d3 := hcell 3 _ rfl
      have d4 := hcell 4 _ rfl
      have d5 := hcell 5 _ rfl
      obtain ⟨_, z1, z2, z3, z4⟩ := hfit
      simp only [ActL.weight] at z1 z2 z3 z4 htk
      simp only [Nat.add_zero] at d0
      obtain ⟨m, hm⟩ : ∃ m, m = pk.length := ⟨_, rfl⟩
      obtain ⟨q, hq⟩ : ∃ q, q = sumW (A.take k) := ⟨_, rfl⟩
      simp only at d5
      rw [← hm] at d5 z4 htk
      rw [← hq] at hsm htk ⊢
      have HTK := Lib.hid htk
      have HLE := Lib.hid hle
      have HB := Lib.hid hbel
      clear hcell hc1 HA hpc hx htk hle hbel hm hq
      by_cases hbig : 3000 < q + (nm.size + tn.size + dt.size + m + 1)
      · go_wp2
        go_ret
        have h1 := HTK.out
        have h2 := HLE.out
        have hg : greatN A = 1 := if_pos (by omega)
        exact ⟨by rw [hg]; rfl, HB.out.alloc HB.out.size _⟩
      · go_wp2
        go_roundw
        case measure => simp [intOf]; omega
        case rel => exact ⟨k + 1, by omega, by go_num, by rw [HTK.out]; go_num, by rw [HTK.out]; omega, HB.out.alloc HB.out.size _⟩
    · have hkn : A.take k = A := List.take_of_length_le (by rw [← HN.out]; omega)
      rw [hkn] at hsm
      have hg : greatN A = 0 := if_neg (by omega)
      have HGG := Lib.hid hg
      have HB := Lib.hid hbel
      clear hg hbel hkn
      go_wp2
      go_ret
      exact ⟨by rw [HGG.out]; rfl, HB.out⟩
end Go.Proofs.Ytpllcnpcplbobaa
