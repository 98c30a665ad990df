/-
  DERIVED. GIVEN WITH THE SEED: THE CARDS: each row of YtdngcheimohamaaDoorRows.lean that lists a variable, with what it lists TIED to the program's text (the seventh form; the later family's looks); each row that meets fmt, with fmt's text TOLD by the authors' own Lean function (tested against real Go, not proved from fmt's source: count such statements apart). THE CARD IS WHAT COUNTS. Prove the row's statement (the work); the ties are given (YtdngcheimohamaaDoorTie.lean); close each card by the builder's one call (the guide's Derived/Test/ToyasCard.lean, 'card_holds'). Laid BY PROGRAM, IN A SANDBOX (cutbox-door.mjs). By AI agents, Wed Nov 11 2026. No macro, syntax, notation, axiom, sorry.
-/
import Derived.Test.YtdngcheimohamaaDoorRows
import GoSem.ClaimSeven
namespace Go.Proofs.YtdngcheimohamaaDoor
namespace Rows

/-- THE TIED CARD OF 'interrexlaw31.ClientTurns'. -/
def clientTurnsCard : Claim7 := { stood := { row := clientTurnsRow, standIns := [], harness := (true, "9f72c1cd9f81edada2234b459f3fa39a39be095064012457c680726e3757bf4e"), looks := false }, kinds := [], alts := [], laidByText := true, laidKinds := [.data], laidTests := true, laidLooks := .later }
def ClientTurnsCardSaid : Prop := Claim7.holds Tryd.pinned (.plain (OpenSpec.ofChange clientTurnsSpec)) clientTurnsCard

/-- THE TIED CARD OF 'interrexlaw19.EntryBytes'. -/
def entryBytesCard : Claim7 := { stood := { row := entryBytesRow, standIns := [], harness := (true, "9f72c1cd9f81edada2234b459f3fa39a39be095064012457c680726e3757bf4e"), looks := false }, kinds := [], alts := [], laidByText := true, laidKinds := [.data], laidTests := true, laidLooks := .later }
def EntryBytesCardSaid : Prop := Claim7.holds Tryd.pinned (.plain (OpenSpec.ofChange entryBytesSpec)) entryBytesCard

/-- THE TIED CARD OF 'interrexlaw19.EntryReads'. -/
def entryReadsCard : Claim7 := { stood := { row := entryReadsRow, standIns := [], harness := (true, "9f72c1cd9f81edada2234b459f3fa39a39be095064012457c680726e3757bf4e"), looks := false }, kinds := [], alts := [], laidByText := true, laidKinds := [.data], laidTests := true, laidLooks := .later }
def EntryReadsCardSaid : Prop := Claim7.holds Tryd.pinned (.plain (OpenSpec.ofChange entryReadsSpec)) entryReadsCard

/-- THE TIED CARD OF 'interrexlaw19.EntryGets'. -/
def entryGetsCard : Claim7 := { stood := { row := entryGetsRow, standIns := [], harness := (true, "9f72c1cd9f81edada2234b459f3fa39a39be095064012457c680726e3757bf4e"), looks := false }, kinds := [], alts := [], laidByText := true, laidKinds := [.data], laidTests := true, laidLooks := .later }
def EntryGetsCardSaid : Prop := Claim7.holds Tryd.pinned (.plain (OpenSpec.ofChange entryGetsSpec)) entryGetsCard

/-- THE TIED CARD OF 'interrexlaw19.EntryRows'. -/
def entryRowsCard : Claim7 := { stood := { row := entryRowsRow, standIns := [], harness := (true, "9f72c1cd9f81edada2234b459f3fa39a39be095064012457c680726e3757bf4e"), looks := false }, kinds := [], alts := [], laidByText := true, laidKinds := [.data], laidTests := true, laidLooks := .later }
def EntryRowsCardSaid : Prop := Claim7.holds Tryd.pinned (.plain (OpenSpec.ofChange entryRowsSpec)) entryRowsCard

/-- THE SECOND FORM's CARD OF 'interrexlaw31.ClientTurns'. -/
def clientTurnsUptoCard : Claim7 := { stood := { row := clientTurnsUptoRow, standIns := [], harness := (true, "9f72c1cd9f81edada2234b459f3fa39a39be095064012457c680726e3757bf4e"), looks := false }, kinds := [], alts := [], laidByText := true, laidKinds := [.data], laidTests := true, laidLooks := .later }
def ClientTurnsUptoCardSaid : Prop := Claim7.holds Tryd.pinned (.plain (OpenSpec.upto clientTurnsSpec)) clientTurnsUptoCard

/-- THE SECOND FORM's CARD OF 'interrexlaw19.EntryBytes'. -/
def entryBytesUptoCard : Claim7 := { stood := { row := entryBytesUptoRow, standIns := [], harness := (true, "9f72c1cd9f81edada2234b459f3fa39a39be095064012457c680726e3757bf4e"), looks := false }, kinds := [], alts := [], laidByText := true, laidKinds := [.data], laidTests := true, laidLooks := .later }
def EntryBytesUptoCardSaid : Prop := Claim7.holds Tryd.pinned (.plain (OpenSpec.upto entryBytesSpec)) entryBytesUptoCard

/-- THE SECOND FORM's CARD OF 'interrexlaw19.EntryReads'. -/
def entryReadsUptoCard : Claim7 := { stood := { row := entryReadsUptoRow, standIns := [], harness := (true, "9f72c1cd9f81edada2234b459f3fa39a39be095064012457c680726e3757bf4e"), looks := false }, kinds := [], alts := [], laidByText := true, laidKinds := [.data], laidTests := true, laidLooks := .later }
def EntryReadsUptoCardSaid : Prop := Claim7.holds Tryd.pinned (.plain (OpenSpec.upto entryReadsSpec)) entryReadsUptoCard

/-- THE SECOND FORM's CARD OF 'interrexlaw19.EntryGets'. -/
def entryGetsUptoCard : Claim7 := { stood := { row := entryGetsUptoRow, standIns := [], harness := (true, "9f72c1cd9f81edada2234b459f3fa39a39be095064012457c680726e3757bf4e"), looks := false }, kinds := [], alts := [], laidByText := true, laidKinds := [.data], laidTests := true, laidLooks := .later }
def EntryGetsUptoCardSaid : Prop := Claim7.holds Tryd.pinned (.plain (OpenSpec.upto entryGetsSpec)) entryGetsUptoCard

/-- THE SECOND FORM's CARD OF 'interrexlaw19.EntryRows'. -/
def entryRowsUptoCard : Claim7 := { stood := { row := entryRowsUptoRow, standIns := [], harness := (true, "9f72c1cd9f81edada2234b459f3fa39a39be095064012457c680726e3757bf4e"), looks := false }, kinds := [], alts := [], laidByText := true, laidKinds := [.data], laidTests := true, laidLooks := .later }
def EntryRowsUptoCardSaid : Prop := Claim7.holds Tryd.pinned (.plain (OpenSpec.upto entryRowsSpec)) entryRowsUptoCard
end Rows
end Go.Proofs.YtdngcheimohamaaDoor
