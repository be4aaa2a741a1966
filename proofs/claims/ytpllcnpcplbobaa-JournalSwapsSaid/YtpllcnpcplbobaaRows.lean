/-
  No cell of these rows narrows 'for every input' (looked for: loops, veiled, ifaces, maps, wideKeys, modest, calm, conditions, laid).
  DERIVED. THE GIVEN ROWS OF THIS SEAT. 9 by the template 'for every input the law returns true; each argument reads behind the call as it read before'; 0 by the template 'total and deterministic' (their statements: YtpllcnpcplbobaaTotals.lean).
  GIVEN WITH THE SEED: the statements are not yours to turn. If you find one false, say at which input.
  Laid BY PROGRAM, IN A SANDBOX (cutbox-rows.mjs): the forced cells as the released guide's own fill.sh prints them over the translation 699a3eb9c4080547… (all of the seat's roots in one cut). By AI agents, Wed Nov 11 2026. No macro, syntax, notation, axiom, sorry.
-/
import Derived.Test.YtpllcnpcplbobaaChecked
import GoSem.Claim
import GoSem.ClaimJoined
import GoSem.ClaimMapViews
import Derived.JoinedTies
import Derived.KernelRfl
namespace Go.Proofs.Ytpllcnpcplbobaa
/- THE CELL 'sum', in the pinned program and in every row, IS THE sha256 OF THE DUMP (.gsa) THAT YtpllcnpcplbobaaProg.lean LOADS. Nothing in Lean hashes anything: it is a label: what it is worth is what the hold of that sum in a sandbox is worth. -/
noncomputable def Try.pinned : Pinned := { name := "ytpllcnpcplbobaa", sum := "699a3eb9c4080547086007fc6f62ddf7fe839a1d6d3f971bd3aa25b4e2b5afca", checked := Try.checked }
namespace Rows
def none {H : Type} : Left H := { results := [], args := [] }

/-- 'bloomerylaw08.JournalFrames': WHATEVER THE INPUT: true; the input reads as it did. -/
def journalFramesSpec : ChangeSpec := { name := "journalFrames", fn := fun _ => fun
  | [d1, d2] => { results := [.lit (.bool true)], args := [d1, d2] }
  | _ => none }
def journalFramesRow : OpenClaim := { program := "ytpllcnpcplbobaa", sum := "699a3eb9c4080547086007fc6f62ddf7fe839a1d6d3f971bd3aa25b4e2b5afca", func := "bloomery/bloomerylaw08.JournalFrames", spec := "journalFrames", recurses := true, apart := false }
def JournalFramesSaid : Prop := journalFramesRow.holds Try.pinned (OpenSpec.ofChange journalFramesSpec)

/-- ITS FALSE NEIGHBOUR: 'it returns false'. Refute it at one input. -/
def journalFramesWrong : ChangeSpec := { name := "journalFrames", fn := fun _ => fun
  | [d1, d2] => { results := [.lit (.bool false)], args := [d1, d2] }
  | _ => none }
def JournalFramesWrongFalsely : Prop := journalFramesRow.holds Try.pinned (OpenSpec.ofChange journalFramesWrong)

/-- 'bloomerylaw08.JournalScans': WHATEVER THE INPUT: true; the input reads as it did. -/
def journalScansSpec : ChangeSpec := { name := "journalScans", fn := fun _ => fun
  | [d] => { results := [.lit (.bool true)], args := [d] }
  | _ => none }
def journalScansRow : OpenClaim := { program := "ytpllcnpcplbobaa", sum := "699a3eb9c4080547086007fc6f62ddf7fe839a1d6d3f971bd3aa25b4e2b5afca", func := "bloomery/bloomerylaw08.JournalScans", spec := "journalScans", recurses := true, apart := false }
def JournalScansSaid : Prop := journalScansRow.holds Try.pinned (OpenSpec.ofChange journalScansSpec)

/-- ITS FALSE NEIGHBOUR: 'it returns false'. Refute it at one input. -/
def journalScansWrong : ChangeSpec := { name := "journalScans", fn := fun _ => fun
  | [d] => { results := [.lit (.bool false)], args := [d] }
  | _ => none }
def JournalScansWrongFalsely : Prop := journalScansRow.holds Try.pinned (OpenSpec.ofChange journalScansWrong)

/-- 'bloomerylaw08.JournalTails': WHATEVER THE INPUT: true; the input reads as it did. -/
def journalTailsSpec : ChangeSpec := { name := "journalTails", fn := fun _ => fun
  | [d1, d2, d3] => { results := [.lit (.bool true)], args := [d1, d2, d3] }
  | _ => none }
def journalTailsRow : OpenClaim := { program := "ytpllcnpcplbobaa", sum := "699a3eb9c4080547086007fc6f62ddf7fe839a1d6d3f971bd3aa25b4e2b5afca", func := "bloomery/bloomerylaw08.JournalTails", spec := "journalTails", recurses := true, apart := false }
def JournalTailsSaid : Prop := journalTailsRow.holds Try.pinned (OpenSpec.ofChange journalTailsSpec)

/-- ITS FALSE NEIGHBOUR: 'it returns false'. Refute it at one input. -/
def journalTailsWrong : ChangeSpec := { name := "journalTails", fn := fun _ => fun
  | [d1, d2, d3] => { results := [.lit (.bool false)], args := [d1, d2, d3] }
  | _ => none }
def JournalTailsWrongFalsely : Prop := journalTailsRow.holds Try.pinned (OpenSpec.ofChange journalTailsWrong)

/-- 'bloomerylaw07.DiskBudget': WHATEVER THE INPUT: true; the input reads as it did. -/
def diskBudgetSpec : ChangeSpec := { name := "diskBudget", fn := fun _ => fun
  | [d1, d2] => { results := [.lit (.bool true)], args := [d1, d2] }
  | _ => none }
def diskBudgetRow : OpenClaim := { program := "ytpllcnpcplbobaa", sum := "699a3eb9c4080547086007fc6f62ddf7fe839a1d6d3f971bd3aa25b4e2b5afca", func := "bloomery/bloomerylaw07.DiskBudget", spec := "diskBudget", unfollowed := true, recurses := true, apart := false }
def DiskBudgetSaid : Prop := diskBudgetRow.holds Try.pinned (OpenSpec.ofChange diskBudgetSpec)

/-- ITS FALSE NEIGHBOUR: 'it returns false'. Refute it at one input. -/
def diskBudgetWrong : ChangeSpec := { name := "diskBudget", fn := fun _ => fun
  | [d1, d2] => { results := [.lit (.bool false)], args := [d1, d2] }
  | _ => none }
def DiskBudgetWrongFalsely : Prop := diskBudgetRow.holds Try.pinned (OpenSpec.ofChange diskBudgetWrong)

/-- 'bloomerylaw07.DiskSure': WHATEVER THE INPUT: true; the input reads as it did. -/
def diskSureSpec : ChangeSpec := { name := "diskSure", fn := fun _ => fun
  | [d1, d2, d3] => { results := [.lit (.bool true)], args := [d1, d2, d3] }
  | _ => none }
def diskSureRow : OpenClaim := { program := "ytpllcnpcplbobaa", sum := "699a3eb9c4080547086007fc6f62ddf7fe839a1d6d3f971bd3aa25b4e2b5afca", func := "bloomery/bloomerylaw07.DiskSure", spec := "diskSure", unfollowed := true, recurses := true, apart := false }
def DiskSureSaid : Prop := diskSureRow.holds Try.pinned (OpenSpec.ofChange diskSureSpec)

/-- ITS FALSE NEIGHBOUR: 'it returns false'. Refute it at one input. -/
def diskSureWrong : ChangeSpec := { name := "diskSure", fn := fun _ => fun
  | [d1, d2, d3] => { results := [.lit (.bool false)], args := [d1, d2, d3] }
  | _ => none }
def DiskSureWrongFalsely : Prop := diskSureRow.holds Try.pinned (OpenSpec.ofChange diskSureWrong)

/-- 'bloomerylaw07.DiskRuns': WHATEVER THE INPUT: true; the input reads as it did. -/
def diskRunsSpec : ChangeSpec := { name := "diskRuns", fn := fun _ => fun
  | [d] => { results := [.lit (.bool true)], args := [d] }
  | _ => none }
def diskRunsRow : OpenClaim := { program := "ytpllcnpcplbobaa", sum := "699a3eb9c4080547086007fc6f62ddf7fe839a1d6d3f971bd3aa25b4e2b5afca", func := "bloomery/bloomerylaw07.DiskRuns", spec := "diskRuns", unfollowed := true, recurses := true, apart := false }
def DiskRunsSaid : Prop := diskRunsRow.holds Try.pinned (OpenSpec.ofChange diskRunsSpec)

/-- ITS FALSE NEIGHBOUR: 'it returns false'. Refute it at one input. -/
def diskRunsWrong : ChangeSpec := { name := "diskRuns", fn := fun _ => fun
  | [d] => { results := [.lit (.bool false)], args := [d] }
  | _ => none }
def DiskRunsWrongFalsely : Prop := diskRunsRow.holds Try.pinned (OpenSpec.ofChange diskRunsWrong)

/-- 'bloomerylaw07.DiskApart': WHATEVER THE INPUT: true; the input reads as it did. -/
def diskApartSpec : ChangeSpec := { name := "diskApart", fn := fun _ => fun
  | [d1, d2] => { results := [.lit (.bool true)], args := [d1, d2] }
  | _ => none }
def diskApartRow : OpenClaim := { program := "ytpllcnpcplbobaa", sum := "699a3eb9c4080547086007fc6f62ddf7fe839a1d6d3f971bd3aa25b4e2b5afca", func := "bloomery/bloomerylaw07.DiskApart", spec := "diskApart", unfollowed := true, recurses := true, apart := false }
def DiskApartSaid : Prop := diskApartRow.holds Try.pinned (OpenSpec.ofChange diskApartSpec)

/-- ITS FALSE NEIGHBOUR: 'it returns false'. Refute it at one input. -/
def diskApartWrong : ChangeSpec := { name := "diskApart", fn := fun _ => fun
  | [d1, d2] => { results := [.lit (.bool false)], args := [d1, d2] }
  | _ => none }
def DiskApartWrongFalsely : Prop := diskApartRow.holds Try.pinned (OpenSpec.ofChange diskApartWrong)

/-- 'bloomerylaw08.JournalSure': WHATEVER THE INPUT: true; the input reads as it did. -/
def journalSureSpec : ChangeSpec := { name := "journalSure", fn := fun _ => fun
  | [d1, d2, d3] => { results := [.lit (.bool true)], args := [d1, d2, d3] }
  | _ => none }
def journalSureRow : OpenClaim := { program := "ytpllcnpcplbobaa", sum := "699a3eb9c4080547086007fc6f62ddf7fe839a1d6d3f971bd3aa25b4e2b5afca", func := "bloomery/bloomerylaw08.JournalSure", spec := "journalSure", unfollowed := true, recurses := true, apart := false }
def JournalSureSaid : Prop := journalSureRow.holds Try.pinned (OpenSpec.ofChange journalSureSpec)

/-- ITS FALSE NEIGHBOUR: 'it returns false'. Refute it at one input. -/
def journalSureWrong : ChangeSpec := { name := "journalSure", fn := fun _ => fun
  | [d1, d2, d3] => { results := [.lit (.bool false)], args := [d1, d2, d3] }
  | _ => none }
def JournalSureWrongFalsely : Prop := journalSureRow.holds Try.pinned (OpenSpec.ofChange journalSureWrong)

/-- 'bloomerylaw08.JournalSwaps': WHATEVER THE INPUT: true; the input reads as it did. -/
def journalSwapsSpec : ChangeSpec := { name := "journalSwaps", fn := fun _ => fun
  | [d1, d2, d3, d4] => { results := [.lit (.bool true)], args := [d1, d2, d3, d4] }
  | _ => none }
def journalSwapsRow : OpenClaim := { program := "ytpllcnpcplbobaa", sum := "699a3eb9c4080547086007fc6f62ddf7fe839a1d6d3f971bd3aa25b4e2b5afca", func := "bloomery/bloomerylaw08.JournalSwaps", spec := "journalSwaps", inPlace := ["internal/abi.NoEscape"], unfollowed := true, recurses := true, apart := false }
def JournalSwapsSaid : Prop := journalSwapsRow.holds Try.pinned (OpenSpec.ofChange journalSwapsSpec)

/-- ITS FALSE NEIGHBOUR: 'it returns false'. Refute it at one input. -/
def journalSwapsWrong : ChangeSpec := { name := "journalSwaps", fn := fun _ => fun
  | [d1, d2, d3, d4] => { results := [.lit (.bool false)], args := [d1, d2, d3, d4] }
  | _ => none }
def JournalSwapsWrongFalsely : Prop := journalSwapsRow.holds Try.pinned (OpenSpec.ofChange journalSwapsWrong)

/- THE SECOND FORM. 'bulk': how many values and letters a reading holds, each counted each time it is reached (what is shared counts as often as it is met; a slice's spare places count too). A statement '..UptoSaid' is the law's where the arguments, and the package variables that the reading takes, are together of bulk at most 1048576: NARROWER than '..Said'. Prove '..Said' where nothing that the law and all that it calls make is longer than what came in: it says more and counts as full. Else prove '..UptoSaid'. A law counts once. -/
mutual
def uptoBulk {H : Type} : DataW H → Nat
  | .lit (.string bytes) => bytes.length + 1
  | .lit _ => 1
  | .nil => 1
  | .ptr d => uptoBulk d + 1
  | .slice elems spare => uptoBulkAll elems + uptoBulkAll spare + 1
  | .agg parts => uptoBulkAll parts + 1
  | .iface _ d => uptoBulk d + 1
  | .map entries => uptoBulkEntries entries + 1
  | .held _ => 1
def uptoBulkAll {H : Type} : List (DataW H) → Nat
  | [] => 0
  | d :: r => uptoBulk d + uptoBulkAll r
def uptoBulkEntries {H : Type} : List (Lit × DataW H) → Nat
  | [] => 0
  | x :: r => uptoBulkEntry x + uptoBulkEntries r
def uptoBulkEntry {H : Type} : Lit × DataW H → Nat
  | (.string bytes, d) => bytes.length + uptoBulk d + 1
  | (_, d) => uptoBulk d + 1
 end
def uptoSmall : (H : Type) → List (DataW H) → Bool := fun _ ds => decide (uptoBulkAll ds ≤ 1048576)
def OpenSpec.upto (s : _root_.Go.ChangeSpec) : _root_.Go.OpenSpec := { _root_.Go.OpenSpec.ofChange s with cond := some uptoSmall }

/-- 'bloomerylaw08.JournalFrames', WHERE WHAT IT READS IS OF BULK AT MOST 1048576: true; the input reads as it did. -/
def journalFramesUptoRow : OpenClaim := { program := "ytpllcnpcplbobaa", sum := "699a3eb9c4080547086007fc6f62ddf7fe839a1d6d3f971bd3aa25b4e2b5afca", func := "bloomery/bloomerylaw08.JournalFrames", spec := "journalFrames", recurses := true, apart := false, narrowed := true }
def JournalFramesUptoSaid : Prop := journalFramesUptoRow.holds Try.pinned (OpenSpec.upto journalFramesSpec)

/-- 'bloomerylaw08.JournalScans', WHERE WHAT IT READS IS OF BULK AT MOST 1048576: true; the input reads as it did. -/
def journalScansUptoRow : OpenClaim := { program := "ytpllcnpcplbobaa", sum := "699a3eb9c4080547086007fc6f62ddf7fe839a1d6d3f971bd3aa25b4e2b5afca", func := "bloomery/bloomerylaw08.JournalScans", spec := "journalScans", recurses := true, apart := false, narrowed := true }
def JournalScansUptoSaid : Prop := journalScansUptoRow.holds Try.pinned (OpenSpec.upto journalScansSpec)

/-- 'bloomerylaw08.JournalTails', WHERE WHAT IT READS IS OF BULK AT MOST 1048576: true; the input reads as it did. -/
def journalTailsUptoRow : OpenClaim := { program := "ytpllcnpcplbobaa", sum := "699a3eb9c4080547086007fc6f62ddf7fe839a1d6d3f971bd3aa25b4e2b5afca", func := "bloomery/bloomerylaw08.JournalTails", spec := "journalTails", recurses := true, apart := false, narrowed := true }
def JournalTailsUptoSaid : Prop := journalTailsUptoRow.holds Try.pinned (OpenSpec.upto journalTailsSpec)

/-- 'bloomerylaw07.DiskBudget', WHERE WHAT IT READS IS OF BULK AT MOST 1048576: true; the input reads as it did. -/
def diskBudgetUptoRow : OpenClaim := { program := "ytpllcnpcplbobaa", sum := "699a3eb9c4080547086007fc6f62ddf7fe839a1d6d3f971bd3aa25b4e2b5afca", func := "bloomery/bloomerylaw07.DiskBudget", spec := "diskBudget", unfollowed := true, recurses := true, apart := false, narrowed := true }
def DiskBudgetUptoSaid : Prop := diskBudgetUptoRow.holds Try.pinned (OpenSpec.upto diskBudgetSpec)

/-- 'bloomerylaw07.DiskSure', WHERE WHAT IT READS IS OF BULK AT MOST 1048576: true; the input reads as it did. -/
def diskSureUptoRow : OpenClaim := { program := "ytpllcnpcplbobaa", sum := "699a3eb9c4080547086007fc6f62ddf7fe839a1d6d3f971bd3aa25b4e2b5afca", func := "bloomery/bloomerylaw07.DiskSure", spec := "diskSure", unfollowed := true, recurses := true, apart := false, narrowed := true }
def DiskSureUptoSaid : Prop := diskSureUptoRow.holds Try.pinned (OpenSpec.upto diskSureSpec)

/-- 'bloomerylaw07.DiskRuns', WHERE WHAT IT READS IS OF BULK AT MOST 1048576: true; the input reads as it did. -/
def diskRunsUptoRow : OpenClaim := { program := "ytpllcnpcplbobaa", sum := "699a3eb9c4080547086007fc6f62ddf7fe839a1d6d3f971bd3aa25b4e2b5afca", func := "bloomery/bloomerylaw07.DiskRuns", spec := "diskRuns", unfollowed := true, recurses := true, apart := false, narrowed := true }
def DiskRunsUptoSaid : Prop := diskRunsUptoRow.holds Try.pinned (OpenSpec.upto diskRunsSpec)

/-- 'bloomerylaw07.DiskApart', WHERE WHAT IT READS IS OF BULK AT MOST 1048576: true; the input reads as it did. -/
def diskApartUptoRow : OpenClaim := { program := "ytpllcnpcplbobaa", sum := "699a3eb9c4080547086007fc6f62ddf7fe839a1d6d3f971bd3aa25b4e2b5afca", func := "bloomery/bloomerylaw07.DiskApart", spec := "diskApart", unfollowed := true, recurses := true, apart := false, narrowed := true }
def DiskApartUptoSaid : Prop := diskApartUptoRow.holds Try.pinned (OpenSpec.upto diskApartSpec)

/-- 'bloomerylaw08.JournalSure', WHERE WHAT IT READS IS OF BULK AT MOST 1048576: true; the input reads as it did. -/
def journalSureUptoRow : OpenClaim := { program := "ytpllcnpcplbobaa", sum := "699a3eb9c4080547086007fc6f62ddf7fe839a1d6d3f971bd3aa25b4e2b5afca", func := "bloomery/bloomerylaw08.JournalSure", spec := "journalSure", unfollowed := true, recurses := true, apart := false, narrowed := true }
def JournalSureUptoSaid : Prop := journalSureUptoRow.holds Try.pinned (OpenSpec.upto journalSureSpec)

/-- 'bloomerylaw08.JournalSwaps', WHERE WHAT IT READS IS OF BULK AT MOST 1048576: true; the input reads as it did. -/
def journalSwapsUptoRow : OpenClaim := { program := "ytpllcnpcplbobaa", sum := "699a3eb9c4080547086007fc6f62ddf7fe839a1d6d3f971bd3aa25b4e2b5afca", func := "bloomery/bloomerylaw08.JournalSwaps", spec := "journalSwaps", inPlace := ["internal/abi.NoEscape"], unfollowed := true, recurses := true, apart := false, narrowed := true }
def JournalSwapsUptoSaid : Prop := journalSwapsUptoRow.holds Try.pinned (OpenSpec.upto journalSwapsSpec)

end Rows
end Go.Proofs.Ytpllcnpcplbobaa
