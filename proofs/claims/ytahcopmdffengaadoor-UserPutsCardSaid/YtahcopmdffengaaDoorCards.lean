/-
  DERIVED. GIVEN WITH THE SEED: THE CARDS: each row of YtahcopmdffengaaDoorRows.lean that lists a variable, with what it lists TIED to the program's text (the seventh form; the later family's looks); each row that meets fmt, with fmt's text TOLD by the authors' own Lean function (tested against real Go, not proved from fmt's source: count such statements apart). THE CARD IS WHAT COUNTS. Prove the row's statement (the work); the ties are given (YtahcopmdffengaaDoorTie.lean); close each card by the builder's one call (the guide's Derived/Test/ToyasCard.lean, 'card_holds'). Laid BY PROGRAM, IN A SANDBOX (cutbox-door.mjs). By AI agents, Wed Nov 11 2026. No macro, syntax, notation, axiom, sorry.
-/
import Derived.Test.YtahcopmdffengaaDoorRows
import GoSem.ClaimSeven
namespace Go.Proofs.YtahcopmdffengaaDoor
namespace Rows

/-- THE TIED CARD OF 'interrexlaw05.NameMails'. -/
def nameMailsCard : Claim7 := { stood := { row := nameMailsRow, standIns := [], harness := (true, "70d4512f6e12614ff1affe639822fc9c9267cb4e11b6d0407b0bae6ec801d166"), looks := false }, kinds := [], alts := [], laidByText := true, laidKinds := [.data, .pinned], laidTests := true, laidLooks := .later }
def NameMailsCardSaid : Prop := Claim7.holds Tryd.pinned (.plain (OpenSpec.ofChange nameMailsSpec)) nameMailsCard

/-- THE TIED CARD OF 'interrexlaw05.NameParts'. -/
def namePartsCard : Claim7 := { stood := { row := namePartsRow, standIns := [], harness := (true, "70d4512f6e12614ff1affe639822fc9c9267cb4e11b6d0407b0bae6ec801d166"), looks := false }, kinds := [], alts := [], laidByText := true, laidKinds := [.data, .pinned], laidTests := true, laidLooks := .later }
def NamePartsCardSaid : Prop := Claim7.holds Tryd.pinned (.plain (OpenSpec.ofChange namePartsSpec)) namePartsCard

/-- THE TIED CARD OF 'interrexlaw05.NameTells'. -/
def nameTellsCard : Claim7 := { stood := { row := nameTellsRow, standIns := [], harness := (true, "70d4512f6e12614ff1affe639822fc9c9267cb4e11b6d0407b0bae6ec801d166"), looks := false }, kinds := [], alts := [], laidByText := true, laidKinds := [.data, .pinned], laidTests := true, laidLooks := .later }
def NameTellsCardSaid : Prop := Claim7.holds Tryd.pinned (.plain (OpenSpec.ofChange nameTellsSpec)) nameTellsCard

/-- THE TIED CARD OF 'interrexlaw05.NameOrder'. -/
def nameOrderCard : Claim7 := { stood := { row := nameOrderRow, standIns := [], harness := (true, "70d4512f6e12614ff1affe639822fc9c9267cb4e11b6d0407b0bae6ec801d166"), looks := false }, kinds := [], alts := [], laidByText := true, laidKinds := [.data, .pinned], laidTests := true, laidLooks := .later }
def NameOrderCardSaid : Prop := Claim7.holds Tryd.pinned (.plain (OpenSpec.ofChange nameOrderSpec)) nameOrderCard

/-- THE TIED CARD OF 'interrexlaw06.UserUps'. -/
def userUpsCard : Claim7 := { stood := { row := userUpsRow, standIns := [], harness := (true, "70d4512f6e12614ff1affe639822fc9c9267cb4e11b6d0407b0bae6ec801d166"), looks := false }, kinds := [], alts := [], laidByText := true, laidKinds := [.data, .pinned], laidTests := true, laidLooks := .later }
def UserUpsCardSaid : Prop := Claim7.holds Tryd.pinned (.plain (OpenSpec.ofChange userUpsSpec)) userUpsCard

/-- THE TIED CARD OF 'interrexlaw06.UserClones'. -/
def userClonesCard : Claim7 := { stood := { row := userClonesRow, standIns := [], harness := (true, "70d4512f6e12614ff1affe639822fc9c9267cb4e11b6d0407b0bae6ec801d166"), looks := false }, kinds := [], alts := [], laidByText := true, laidKinds := [.data, .pinned], laidTests := true, laidLooks := .later }
def UserClonesCardSaid : Prop := Claim7.holds Tryd.pinned (.plain (OpenSpec.ofChange userClonesSpec)) userClonesCard

/-- THE TIED CARD OF 'interrexlaw06.UserGets'. -/
def userGetsCard : Claim7 := { stood := { row := userGetsRow, standIns := [], harness := (true, "70d4512f6e12614ff1affe639822fc9c9267cb4e11b6d0407b0bae6ec801d166"), looks := false }, kinds := [], alts := [], laidByText := true, laidKinds := [.data, .pinned], laidTests := true, laidLooks := .later }
def UserGetsCardSaid : Prop := Claim7.holds Tryd.pinned (.plain (OpenSpec.ofChange userGetsSpec)) userGetsCard

/-- THE TIED CARD OF 'interrexlaw06.UserPuts'. -/
def userPutsCard : Claim7 := { stood := { row := userPutsRow, standIns := [], harness := (true, "70d4512f6e12614ff1affe639822fc9c9267cb4e11b6d0407b0bae6ec801d166"), looks := false }, kinds := [], alts := [], laidByText := true, laidKinds := [.data, .pinned], laidTests := true, laidLooks := .later }
def UserPutsCardSaid : Prop := Claim7.holds Tryd.pinned (.plain (OpenSpec.ofChange userPutsSpec)) userPutsCard

/-- THE SECOND FORM's CARD OF 'interrexlaw05.NameMails'. -/
def nameMailsUptoCard : Claim7 := { stood := { row := nameMailsUptoRow, standIns := [], harness := (true, "70d4512f6e12614ff1affe639822fc9c9267cb4e11b6d0407b0bae6ec801d166"), looks := false }, kinds := [], alts := [], laidByText := true, laidKinds := [.data, .pinned], laidTests := true, laidLooks := .later }
def NameMailsUptoCardSaid : Prop := Claim7.holds Tryd.pinned (.plain (OpenSpec.upto nameMailsSpec)) nameMailsUptoCard

/-- THE SECOND FORM's CARD OF 'interrexlaw05.NameParts'. -/
def namePartsUptoCard : Claim7 := { stood := { row := namePartsUptoRow, standIns := [], harness := (true, "70d4512f6e12614ff1affe639822fc9c9267cb4e11b6d0407b0bae6ec801d166"), looks := false }, kinds := [], alts := [], laidByText := true, laidKinds := [.data, .pinned], laidTests := true, laidLooks := .later }
def NamePartsUptoCardSaid : Prop := Claim7.holds Tryd.pinned (.plain (OpenSpec.upto namePartsSpec)) namePartsUptoCard

/-- THE SECOND FORM's CARD OF 'interrexlaw05.NameTells'. -/
def nameTellsUptoCard : Claim7 := { stood := { row := nameTellsUptoRow, standIns := [], harness := (true, "70d4512f6e12614ff1affe639822fc9c9267cb4e11b6d0407b0bae6ec801d166"), looks := false }, kinds := [], alts := [], laidByText := true, laidKinds := [.data, .pinned], laidTests := true, laidLooks := .later }
def NameTellsUptoCardSaid : Prop := Claim7.holds Tryd.pinned (.plain (OpenSpec.upto nameTellsSpec)) nameTellsUptoCard

/-- THE SECOND FORM's CARD OF 'interrexlaw05.NameOrder'. -/
def nameOrderUptoCard : Claim7 := { stood := { row := nameOrderUptoRow, standIns := [], harness := (true, "70d4512f6e12614ff1affe639822fc9c9267cb4e11b6d0407b0bae6ec801d166"), looks := false }, kinds := [], alts := [], laidByText := true, laidKinds := [.data, .pinned], laidTests := true, laidLooks := .later }
def NameOrderUptoCardSaid : Prop := Claim7.holds Tryd.pinned (.plain (OpenSpec.upto nameOrderSpec)) nameOrderUptoCard

/-- THE SECOND FORM's CARD OF 'interrexlaw06.UserUps'. -/
def userUpsUptoCard : Claim7 := { stood := { row := userUpsUptoRow, standIns := [], harness := (true, "70d4512f6e12614ff1affe639822fc9c9267cb4e11b6d0407b0bae6ec801d166"), looks := false }, kinds := [], alts := [], laidByText := true, laidKinds := [.data, .pinned], laidTests := true, laidLooks := .later }
def UserUpsUptoCardSaid : Prop := Claim7.holds Tryd.pinned (.plain (OpenSpec.upto userUpsSpec)) userUpsUptoCard

/-- THE SECOND FORM's CARD OF 'interrexlaw06.UserClones'. -/
def userClonesUptoCard : Claim7 := { stood := { row := userClonesUptoRow, standIns := [], harness := (true, "70d4512f6e12614ff1affe639822fc9c9267cb4e11b6d0407b0bae6ec801d166"), looks := false }, kinds := [], alts := [], laidByText := true, laidKinds := [.data, .pinned], laidTests := true, laidLooks := .later }
def UserClonesUptoCardSaid : Prop := Claim7.holds Tryd.pinned (.plain (OpenSpec.upto userClonesSpec)) userClonesUptoCard

/-- THE SECOND FORM's CARD OF 'interrexlaw06.UserGets'. -/
def userGetsUptoCard : Claim7 := { stood := { row := userGetsUptoRow, standIns := [], harness := (true, "70d4512f6e12614ff1affe639822fc9c9267cb4e11b6d0407b0bae6ec801d166"), looks := false }, kinds := [], alts := [], laidByText := true, laidKinds := [.data, .pinned], laidTests := true, laidLooks := .later }
def UserGetsUptoCardSaid : Prop := Claim7.holds Tryd.pinned (.plain (OpenSpec.upto userGetsSpec)) userGetsUptoCard

/-- THE SECOND FORM's CARD OF 'interrexlaw06.UserPuts'. -/
def userPutsUptoCard : Claim7 := { stood := { row := userPutsUptoRow, standIns := [], harness := (true, "70d4512f6e12614ff1affe639822fc9c9267cb4e11b6d0407b0bae6ec801d166"), looks := false }, kinds := [], alts := [], laidByText := true, laidKinds := [.data, .pinned], laidTests := true, laidLooks := .later }
def UserPutsUptoCardSaid : Prop := Claim7.holds Tryd.pinned (.plain (OpenSpec.upto userPutsSpec)) userPutsUptoCard
end Rows
end Go.Proofs.YtahcopmdffengaaDoor
