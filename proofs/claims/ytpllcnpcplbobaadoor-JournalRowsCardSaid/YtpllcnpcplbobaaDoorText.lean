import Derived.WalkKit
import Derived.Laws.Slices
import Derived.Laws.Strings
namespace Go.Proofs.YtpllcnpcplbobaaDoor
open Go.RowKit
/-! A part of a text, cut out by bounds that fit. -/
section
variable {P : Program}
theorem run_cut (t : TypeId) (ht : P.underlying t = some .string) (s : ByteArray) (a b : Nat) (hab : a ≤ b) (hb : b ≤ s.size) (A B : Int) (hA : A = (a : Int)) (hB : B = (b : Int)) (w : World) :
    (Instr.slice t (.string s) (some (.int .i64 A)) (some (.int .i64 B)) none).run P w = .ok (.string (s.extract a b)) w := by
  subst hA hB
  have h3 : (b : Int) ≤ (s.size : Int) := by omega
  simp [Instr.slice, Instr.sliceBounds, run_underlying ht, run_sliceBound, h3, Nat.not_lt.2 hab, go_sem]
theorem run_cut_high (t : TypeId) (ht : P.underlying t = some .string) (s : ByteArray) (b : Nat) (hb : b ≤ s.size) (B : Int) (hB : B = (b : Int)) (w : World) :
    (Instr.slice t (.string s) none (some (.int .i64 B)) none).run P w = .ok (.string (s.extract 0 b)) w := by
  subst hB
  have h3 : (b : Int) ≤ (s.size : Int) := by omega
  simp [Instr.slice, Instr.sliceBounds, run_underlying ht, run_sliceBound, h3, go_sem]
theorem run_cut_low (t : TypeId) (ht : P.underlying t = some .string) (s : ByteArray) (a : Nat) (ha : a ≤ s.size) (A : Int) (hA : A = (a : Int)) (w : World) :
    (Instr.slice t (.string s) (some (.int .i64 A)) none none).run P w = .ok (.string (s.extract a s.size)) w := by
  subst hA
  have h3 : (a : Int) ≤ (s.size : Int) := by omega
  simp [Instr.slice, Instr.sliceBounds, run_underlying ht, run_sliceBound, h3, go_sem]
end
end Go.Proofs.YtpllcnpcplbobaaDoor
