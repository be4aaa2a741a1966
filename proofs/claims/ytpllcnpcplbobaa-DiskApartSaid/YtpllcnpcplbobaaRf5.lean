import Derived.Test.YtpllcnpcplbobaaRf4
import Derived.Deep.RegionHeld3
import Derived.Deep.DrawnRows
namespace Go.Proofs.Ytpllcnpcplbobaa
open Go.RowKit Go.Maps
attribute [local go_sem ↓] Go.wp_at_zero Go.wp_at_succ
set_option maxRecDepth 100000 in
theorem rpass0 (a a2 : Option Addr) (n c n2 c2 : Nat) (w : World) :
    Calls Try.prog 69 #[.agg #[.slice a n c, .int .i64 0], .slice a2 n2 c2] w fun e w' => e = .returned (.tuple #[.agg #[.slice a n c, .int .i64 0], .int .i64 18]) ∧ Below w.heap.size w w' := by
  go_enter Try.func69, Try.ntmps69
  go_wp2
  refine bodyPost_ret (v := .tuple #[.agg #[.slice a n c, .int .i64 0], .int .i64 18]) (by simp [results, Try.results69, go_sem]) rfl ⟨rfl, ?_⟩
  exact (((Below.refl _ _).alloc (Nat.le_refl _) _).alloc (by simp) _)
set_option maxRecDepth 100000 in
theorem rpass1 (a a2 : Option Addr) (n c n2 c2 : Nat) (left : Int) (h1 : -1 ≤ left) (h2 : left ≤ 9223372036854775807) (h0 : left ≠ 0) (w : World) :
    Calls Try.prog 69 #[.agg #[.slice a n c, .int .i64 left], .slice a2 n2 c2] w fun e w' => e = .returned (.tuple #[.agg #[.slice a2 n2 c2, .int .i64 (leftE 0 left)], .int .i64 0]) ∧ Below w.heap.size w w' := by
  have hz : (left == 0) = false := by simpa using h0
  obtain ⟨lf, hlf⟩ : ∃ lf, lf = leftE 0 left := ⟨_, rfl⟩
  rw [← hlf]
  by_cases hp : 0 < left
  · have e : lf = left - 1 := by rw [hlf, leftE, if_pos ⟨rfl, hp⟩]
    subst e
    clear hlf
    go_enter Try.func69, Try.ntmps69
    go_wp2
    refine bodyPost_ret (v := .tuple #[.agg #[.slice a2 n2 c2, .int .i64 (left - 1)], .int .i64 0]) (by simp [results, Try.results69, go_sem]) rfl ⟨rfl, ?_⟩
    exact (((Below.refl _ _).alloc (Nat.le_refl _) _).alloc (by simp) _)
  · have e : lf = left := by rw [hlf, leftE, if_neg (fun h => hp h.2)]
    subst e
    clear hlf
    go_enter Try.func69, Try.ntmps69
    go_wp2
    refine bodyPost_ret (v := .tuple #[.agg #[.slice a2 n2 c2, .int .i64 lf], .int .i64 0]) (by simp [results, Try.results69, go_sem]) rfl ⟨rfl, ?_⟩
    exact (((Below.refl _ _).alloc (Nat.le_refl _) _).alloc (by simp) _)
end Go.Proofs.Ytpllcnpcplbobaa
