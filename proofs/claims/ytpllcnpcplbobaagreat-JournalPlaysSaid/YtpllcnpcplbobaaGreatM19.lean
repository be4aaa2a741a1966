import Derived.Test.YtpllcnpcplbobaaGreatM04
import Derived.Test.YtpllcnpcplbobaaGreatM02
import Derived.Test.YtpllcnpcplbobaaGreatM06
namespace Go.Proofs.YtpllcnpcplbobaaGreat
open Go.RowKit
theorem rturn_any (n : Int) (hn : n = 2 ∨ n = 6 ∨ n = 7 ∨ n = 11 ∨ n = 13 ∨ n = 17 ∨ n = 18 ∨ n = 19 ∨ n = 22 ∨ n = 25) (x : Int) (w : World) :
    Calls Tryz.prog 82 #[.int .u32 x, .int .i64 n] w fun e w' => e = .returned (.int .u32 (Sha.rotr n x)) ∧ ∃ m, w' = w.drewN m := by
  rcases hn with rfl | rfl | rfl | rfl | rfl | rfl | rfl | rfl | rfl | rfl
  all_goals
    go_enter Tryz.func82, Tryz.ntmps82
    go_wp2_with fail
    go_quiet (fail)
    go_wp2
    go_ret
    exact ⟨by rw [Sha.rotr, Sha.bits_or_comm]; rfl, _, rfl⟩
set_option maxRecDepth 100000 in
theorem rks_any (w : World) :
    Calls Tryz.prog 80 #[] w fun e w' => e = .returned (.slice (some ⟨w.heap.size, 0, none⟩) 64 64) ∧ w' = w.alloc (.cells (Sha.words Sha.KS) 119) := by
  go_enter Tryz.func80, Tryz.ntmps80
  go_wp2
  go_ret
  exact ⟨rfl, rfl⟩
theorem rword_any (g o cap : Nat) (a b c d : Int) (w : World) (h0 : w.cell? ⟨g, o, none⟩ = some (.int .u8 a)) (h1 : w.cell? ⟨g, o + 1, none⟩ = some (.int .u8 b))
    (h2 : w.cell? ⟨g, o + 2, none⟩ = some (.int .u8 c)) (h3 : w.cell? ⟨g, o + 3, none⟩ = some (.int .u8 d))
    (ha : 0 ≤ a ∧ a < 256) (hb : 0 ≤ b ∧ b < 256) (hc : 0 ≤ c ∧ c < 256) (hd : 0 ≤ d ∧ d < 256) :
    Calls Tryz.prog 81 #[.slice (some ⟨g, o, none⟩) 4 cap] w fun e w' => e = .returned (.int .u32 (Sha.word4 a b c d)) ∧ Below w.heap.size w w' := by
  go_enter Tryz.func81, Tryz.ntmps81
  go_wp2_with fail
  go_quiet (fail)
  go_wp2
  go_ret
  exact ⟨rfl, below_drewN (Below.refl _ _) _⟩
end Go.Proofs.YtpllcnpcplbobaaGreat
