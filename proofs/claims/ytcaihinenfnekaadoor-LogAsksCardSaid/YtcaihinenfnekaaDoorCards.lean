/-
  DERIVED. GIVEN WITH THE SEED: THE CARDS: each row of YtcaihinenfnekaaDoorRows.lean that lists a variable, with what it lists TIED to the program's text (the seventh form; the later family's looks); each row that meets fmt, with fmt's text TOLD by the authors' own Lean function (tested against real Go, not proved from fmt's source: count such statements apart). THE CARD IS WHAT COUNTS. Prove the row's statement (the work); the ties are given (YtcaihinenfnekaaDoorTie.lean); close each card by the builder's one call (the guide's Derived/Test/ToyasCard.lean, 'card_holds'). Laid BY PROGRAM, IN A SANDBOX (cutbox-door.mjs). By AI agents, Wed Nov 11 2026. No macro, syntax, notation, axiom, sorry.
-/
import Derived.Test.YtcaihinenfnekaaDoorRows
import GoSem.ClaimSeven
namespace Go.Proofs.YtcaihinenfnekaaDoor
namespace Rows

/-- THE TIED CARD OF 'interrexlaw14.OpNames'. -/
def opNamesCard : Claim7 := { stood := { row := opNamesRow, standIns := [], harness := (true, "d0db197fecc33c998a4b5d8ba42734ca1e084d51867c1843ac0060c82a458bc2"), looks := false }, kinds := [], alts := [], laidByText := true, laidKinds := [.data, .data], laidTests := true, laidLooks := .later }
def OpNamesCardSaid : Prop := Claim7.holds Tryd.pinned (.plain (OpenSpec.ofChange opNamesSpec)) opNamesCard

/-- THE TIED CARD OF 'interrexlaw20.LogTrims'. -/
def logTrimsCard : Claim7 := { stood := { row := logTrimsRow, standIns := [], harness := (true, "d0db197fecc33c998a4b5d8ba42734ca1e084d51867c1843ac0060c82a458bc2"), looks := false }, kinds := [], alts := [], laidByText := true, laidKinds := [.data], laidTests := true, laidLooks := .later }
def LogTrimsCardSaid : Prop := Claim7.holds Tryd.pinned (.plain (OpenSpec.ofChange logTrimsSpec)) logTrimsCard

/-- THE TIED CARD OF 'interrexlaw20.LogPlays'. -/
def logPlaysCard : Claim7 := { stood := { row := logPlaysRow, standIns := [], harness := (true, "d0db197fecc33c998a4b5d8ba42734ca1e084d51867c1843ac0060c82a458bc2"), looks := false }, kinds := [], alts := [], laidByText := true, laidKinds := [.data], laidTests := true, laidLooks := .later }
def LogPlaysCardSaid : Prop := Claim7.holds Tryd.pinned (.plain (OpenSpec.ofChange logPlaysSpec)) logPlaysCard

/-- THE TIED CARD OF 'interrexlaw20.LogOf'. -/
def logOfCard : Claim7 := { stood := { row := logOfRow, standIns := [], harness := (true, "d0db197fecc33c998a4b5d8ba42734ca1e084d51867c1843ac0060c82a458bc2"), looks := false }, kinds := [], alts := [], laidByText := true, laidKinds := [.data], laidTests := true, laidLooks := .later }
def LogOfCardSaid : Prop := Claim7.holds Tryd.pinned (.plain (OpenSpec.ofChange logOfSpec)) logOfCard

/-- THE TIED CARD OF 'interrexlaw14.OpBytes'. -/
def opBytesCard : Claim7 := { stood := { row := opBytesRow, standIns := [], harness := (true, "d0db197fecc33c998a4b5d8ba42734ca1e084d51867c1843ac0060c82a458bc2"), looks := false }, kinds := [], alts := [], laidByText := true, laidKinds := [.data], laidTests := true, laidLooks := .later }
def OpBytesCardSaid : Prop := Claim7.holds Tryd.pinned (.plain (OpenSpec.ofChange opBytesSpec)) opBytesCard

/-- THE TIED CARD OF 'interrexlaw14.OpReads'. -/
def opReadsCard : Claim7 := { stood := { row := opReadsRow, standIns := [], harness := (true, "d0db197fecc33c998a4b5d8ba42734ca1e084d51867c1843ac0060c82a458bc2"), looks := false }, kinds := [], alts := [], laidByText := true, laidKinds := [.data], laidTests := true, laidLooks := .later }
def OpReadsCardSaid : Prop := Claim7.holds Tryd.pinned (.plain (OpenSpec.ofChange opReadsSpec)) opReadsCard

/-- THE TIED CARD OF 'interrexlaw20.LogAsks'. -/
def logAsksCard : Claim7 := { stood := { row := logAsksRow, standIns := [], harness := (true, "d0db197fecc33c998a4b5d8ba42734ca1e084d51867c1843ac0060c82a458bc2"), looks := false }, kinds := [], alts := [], laidByText := true, laidKinds := [.data], laidTests := true, laidLooks := .later }
def LogAsksCardSaid : Prop := Claim7.holds Tryd.pinned (.plain (OpenSpec.ofChange logAsksSpec)) logAsksCard

/-- THE TIED CARD OF 'interrexlaw14.OpReplies'. -/
def opRepliesCard : Claim7 := { stood := { row := opRepliesRow, standIns := [], harness := (true, "d0db197fecc33c998a4b5d8ba42734ca1e084d51867c1843ac0060c82a458bc2"), looks := false }, kinds := [], alts := [], laidByText := true, laidKinds := [.data], laidTests := true, laidLooks := .later }
def OpRepliesCardSaid : Prop := Claim7.holds Tryd.pinned (.plain (OpenSpec.ofChange opRepliesSpec)) opRepliesCard

/-- THE TIED CARD OF 'interrexlaw05.NameMails'. -/
def nameMailsCard : Claim7 := { stood := { row := nameMailsRow, standIns := [], harness := (true, "d0db197fecc33c998a4b5d8ba42734ca1e084d51867c1843ac0060c82a458bc2"), looks := false }, kinds := [], alts := [], laidByText := true, laidKinds := [.data, .pinned], laidTests := true, laidLooks := .later }
def NameMailsCardSaid : Prop := Claim7.holds Tryd.pinned (.plain (OpenSpec.ofChange nameMailsSpec)) nameMailsCard

/-- THE TIED CARD OF 'interrexlaw05.NameParts'. -/
def namePartsCard : Claim7 := { stood := { row := namePartsRow, standIns := [], harness := (true, "d0db197fecc33c998a4b5d8ba42734ca1e084d51867c1843ac0060c82a458bc2"), looks := false }, kinds := [], alts := [], laidByText := true, laidKinds := [.data, .pinned], laidTests := true, laidLooks := .later }
def NamePartsCardSaid : Prop := Claim7.holds Tryd.pinned (.plain (OpenSpec.ofChange namePartsSpec)) namePartsCard

/-- THE TIED CARD OF 'interrexlaw05.NameTells'. -/
def nameTellsCard : Claim7 := { stood := { row := nameTellsRow, standIns := [], harness := (true, "d0db197fecc33c998a4b5d8ba42734ca1e084d51867c1843ac0060c82a458bc2"), looks := false }, kinds := [], alts := [], laidByText := true, laidKinds := [.data, .pinned], laidTests := true, laidLooks := .later }
def NameTellsCardSaid : Prop := Claim7.holds Tryd.pinned (.plain (OpenSpec.ofChange nameTellsSpec)) nameTellsCard

/-- THE TIED CARD OF 'interrexlaw05.NameOrder'. -/
def nameOrderCard : Claim7 := { stood := { row := nameOrderRow, standIns := [], harness := (true, "d0db197fecc33c998a4b5d8ba42734ca1e084d51867c1843ac0060c82a458bc2"), looks := false }, kinds := [], alts := [], laidByText := true, laidKinds := [.data, .pinned], laidTests := true, laidLooks := .later }
def NameOrderCardSaid : Prop := Claim7.holds Tryd.pinned (.plain (OpenSpec.ofChange nameOrderSpec)) nameOrderCard

/-- THE SECOND FORM's CARD OF 'interrexlaw14.OpNames'. -/
def opNamesUptoCard : Claim7 := { stood := { row := opNamesUptoRow, standIns := [], harness := (true, "d0db197fecc33c998a4b5d8ba42734ca1e084d51867c1843ac0060c82a458bc2"), looks := false }, kinds := [], alts := [], laidByText := true, laidKinds := [.data, .data], laidTests := true, laidLooks := .later }
def OpNamesUptoCardSaid : Prop := Claim7.holds Tryd.pinned (.plain (OpenSpec.upto opNamesSpec)) opNamesUptoCard

/-- THE SECOND FORM's CARD OF 'interrexlaw20.LogTrims'. -/
def logTrimsUptoCard : Claim7 := { stood := { row := logTrimsUptoRow, standIns := [], harness := (true, "d0db197fecc33c998a4b5d8ba42734ca1e084d51867c1843ac0060c82a458bc2"), looks := false }, kinds := [], alts := [], laidByText := true, laidKinds := [.data], laidTests := true, laidLooks := .later }
def LogTrimsUptoCardSaid : Prop := Claim7.holds Tryd.pinned (.plain (OpenSpec.upto logTrimsSpec)) logTrimsUptoCard

/-- THE SECOND FORM's CARD OF 'interrexlaw20.LogPlays'. -/
def logPlaysUptoCard : Claim7 := { stood := { row := logPlaysUptoRow, standIns := [], harness := (true, "d0db197fecc33c998a4b5d8ba42734ca1e084d51867c1843ac0060c82a458bc2"), looks := false }, kinds := [], alts := [], laidByText := true, laidKinds := [.data], laidTests := true, laidLooks := .later }
def LogPlaysUptoCardSaid : Prop := Claim7.holds Tryd.pinned (.plain (OpenSpec.upto logPlaysSpec)) logPlaysUptoCard

/-- THE SECOND FORM's CARD OF 'interrexlaw20.LogOf'. -/
def logOfUptoCard : Claim7 := { stood := { row := logOfUptoRow, standIns := [], harness := (true, "d0db197fecc33c998a4b5d8ba42734ca1e084d51867c1843ac0060c82a458bc2"), looks := false }, kinds := [], alts := [], laidByText := true, laidKinds := [.data], laidTests := true, laidLooks := .later }
def LogOfUptoCardSaid : Prop := Claim7.holds Tryd.pinned (.plain (OpenSpec.upto logOfSpec)) logOfUptoCard

/-- THE SECOND FORM's CARD OF 'interrexlaw14.OpBytes'. -/
def opBytesUptoCard : Claim7 := { stood := { row := opBytesUptoRow, standIns := [], harness := (true, "d0db197fecc33c998a4b5d8ba42734ca1e084d51867c1843ac0060c82a458bc2"), looks := false }, kinds := [], alts := [], laidByText := true, laidKinds := [.data], laidTests := true, laidLooks := .later }
def OpBytesUptoCardSaid : Prop := Claim7.holds Tryd.pinned (.plain (OpenSpec.upto opBytesSpec)) opBytesUptoCard

/-- THE SECOND FORM's CARD OF 'interrexlaw14.OpReads'. -/
def opReadsUptoCard : Claim7 := { stood := { row := opReadsUptoRow, standIns := [], harness := (true, "d0db197fecc33c998a4b5d8ba42734ca1e084d51867c1843ac0060c82a458bc2"), looks := false }, kinds := [], alts := [], laidByText := true, laidKinds := [.data], laidTests := true, laidLooks := .later }
def OpReadsUptoCardSaid : Prop := Claim7.holds Tryd.pinned (.plain (OpenSpec.upto opReadsSpec)) opReadsUptoCard

/-- THE SECOND FORM's CARD OF 'interrexlaw20.LogAsks'. -/
def logAsksUptoCard : Claim7 := { stood := { row := logAsksUptoRow, standIns := [], harness := (true, "d0db197fecc33c998a4b5d8ba42734ca1e084d51867c1843ac0060c82a458bc2"), looks := false }, kinds := [], alts := [], laidByText := true, laidKinds := [.data], laidTests := true, laidLooks := .later }
def LogAsksUptoCardSaid : Prop := Claim7.holds Tryd.pinned (.plain (OpenSpec.upto logAsksSpec)) logAsksUptoCard

/-- THE SECOND FORM's CARD OF 'interrexlaw14.OpReplies'. -/
def opRepliesUptoCard : Claim7 := { stood := { row := opRepliesUptoRow, standIns := [], harness := (true, "d0db197fecc33c998a4b5d8ba42734ca1e084d51867c1843ac0060c82a458bc2"), looks := false }, kinds := [], alts := [], laidByText := true, laidKinds := [.data], laidTests := true, laidLooks := .later }
def OpRepliesUptoCardSaid : Prop := Claim7.holds Tryd.pinned (.plain (OpenSpec.upto opRepliesSpec)) opRepliesUptoCard

/-- THE SECOND FORM's CARD OF 'interrexlaw05.NameMails'. -/
def nameMailsUptoCard : Claim7 := { stood := { row := nameMailsUptoRow, standIns := [], harness := (true, "d0db197fecc33c998a4b5d8ba42734ca1e084d51867c1843ac0060c82a458bc2"), looks := false }, kinds := [], alts := [], laidByText := true, laidKinds := [.data, .pinned], laidTests := true, laidLooks := .later }
def NameMailsUptoCardSaid : Prop := Claim7.holds Tryd.pinned (.plain (OpenSpec.upto nameMailsSpec)) nameMailsUptoCard

/-- THE SECOND FORM's CARD OF 'interrexlaw05.NameParts'. -/
def namePartsUptoCard : Claim7 := { stood := { row := namePartsUptoRow, standIns := [], harness := (true, "d0db197fecc33c998a4b5d8ba42734ca1e084d51867c1843ac0060c82a458bc2"), looks := false }, kinds := [], alts := [], laidByText := true, laidKinds := [.data, .pinned], laidTests := true, laidLooks := .later }
def NamePartsUptoCardSaid : Prop := Claim7.holds Tryd.pinned (.plain (OpenSpec.upto namePartsSpec)) namePartsUptoCard

/-- THE SECOND FORM's CARD OF 'interrexlaw05.NameTells'. -/
def nameTellsUptoCard : Claim7 := { stood := { row := nameTellsUptoRow, standIns := [], harness := (true, "d0db197fecc33c998a4b5d8ba42734ca1e084d51867c1843ac0060c82a458bc2"), looks := false }, kinds := [], alts := [], laidByText := true, laidKinds := [.data, .pinned], laidTests := true, laidLooks := .later }
def NameTellsUptoCardSaid : Prop := Claim7.holds Tryd.pinned (.plain (OpenSpec.upto nameTellsSpec)) nameTellsUptoCard

/-- THE SECOND FORM's CARD OF 'interrexlaw05.NameOrder'. -/
def nameOrderUptoCard : Claim7 := { stood := { row := nameOrderUptoRow, standIns := [], harness := (true, "d0db197fecc33c998a4b5d8ba42734ca1e084d51867c1843ac0060c82a458bc2"), looks := false }, kinds := [], alts := [], laidByText := true, laidKinds := [.data, .pinned], laidTests := true, laidLooks := .later }
def NameOrderUptoCardSaid : Prop := Claim7.holds Tryd.pinned (.plain (OpenSpec.upto nameOrderSpec)) nameOrderUptoCard
end Rows
end Go.Proofs.YtcaihinenfnekaaDoor
