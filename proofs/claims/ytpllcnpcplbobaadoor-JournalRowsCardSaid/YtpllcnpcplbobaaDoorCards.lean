/-
  DERIVED. GIVEN WITH THE SEED: THE CARDS: each row of YtpllcnpcplbobaaDoorRows.lean that lists a variable, with what it lists TIED to the program's text (the seventh form; the later family's looks); each row that meets fmt, with fmt's text TOLD by the authors' own Lean function (tested against real Go, not proved from fmt's source: count such statements apart). THE CARD IS WHAT COUNTS. Prove the row's statement (the work); the ties are given (YtpllcnpcplbobaaDoorTie.lean); close each card by the builder's one call (the guide's Derived/Test/ToyasCard.lean, 'card_holds'). Laid BY PROGRAM, IN A SANDBOX (cutbox-door.mjs). By AI agents, Wed Nov 11 2026. No macro, syntax, notation, axiom, sorry.
-/
import Derived.Test.YtpllcnpcplbobaaDoorRows
import GoSem.ClaimSeven
namespace Go.Proofs.YtpllcnpcplbobaaDoor
namespace Rows

/-- THE TIED CARD OF 'bloomerylaw08.JournalRows'. -/
def journalRowsCard : Claim7 := { stood := { row := journalRowsRow, standIns := [], harness := (true, "9b619a87959e3a8c481012a9acd341d4b0ba93bf39c7583d4a8dafb19393b6ec"), looks := false }, kinds := [], alts := [], laidByText := true, laidKinds := [.data, .data, .data], laidTests := true, laidLooks := .later }
def JournalRowsCardSaid : Prop := Claim7.holds Tryd.pinned (.plain (OpenSpec.ofChange journalRowsSpec)) journalRowsCard

/-- THE SECOND FORM's CARD OF 'bloomerylaw08.JournalRows'. -/
def journalRowsUptoCard : Claim7 := { stood := { row := journalRowsUptoRow, standIns := [], harness := (true, "9b619a87959e3a8c481012a9acd341d4b0ba93bf39c7583d4a8dafb19393b6ec"), looks := false }, kinds := [], alts := [], laidByText := true, laidKinds := [.data, .data, .data], laidTests := true, laidLooks := .later }
def JournalRowsUptoCardSaid : Prop := Claim7.holds Tryd.pinned (.plain (OpenSpec.upto journalRowsSpec)) journalRowsUptoCard
end Rows
end Go.Proofs.YtpllcnpcplbobaaDoor
