/-
  DERIVED. GIVEN WITH THE SEED: THE CARDS: each row of YtbmbjedpeepnfaaDoorRows.lean that lists a variable, with what it lists TIED to the program's text (the seventh form; the later family's looks); each row that meets fmt, with fmt's text TOLD by the authors' own Lean function (tested against real Go, not proved from fmt's source: count such statements apart). THE CARD IS WHAT COUNTS. Prove the row's statement (the work); the ties are given (YtbmbjedpeepnfaaDoorTie.lean); close each card by the builder's one call (the guide's Derived/Test/ToyasCard.lean, 'card_holds'). Laid BY PROGRAM, IN A SANDBOX (cutbox-door.mjs). By AI agents, Wed Nov 11 2026. No macro, syntax, notation, axiom, sorry.
-/
import Derived.Test.YtbmbjedpeepnfaaDoorRows
import GoSem.ClaimSeven
namespace Go.Proofs.YtbmbjedpeepnfaaDoor
namespace Rows

/-- THE TIED CARD OF 'wainscotlaw15.ModelClones'. -/
def modelClonesCard : Claim7 := { stood := { row := modelClonesRow, standIns := [], harness := (true, "284c49cd6a5ef03cb0b10374fb715a4f6b6efd2702ce299b808f79c75d858a0b"), looks := false }, kinds := [], alts := [], laidByText := true, laidKinds := [.data, .pinned], laidTests := true, laidLooks := .later }
def ModelClonesCardSaid : Prop := Claim7.holds Tryd.pinned (.plain (OpenSpec.ofChange modelClonesSpec)) modelClonesCard

/-- THE TIED CARD OF 'wainscotlaw15.ModelTree'. -/
def modelTreeCard : Claim7 := { stood := { row := modelTreeRow, standIns := [], harness := (true, "284c49cd6a5ef03cb0b10374fb715a4f6b6efd2702ce299b808f79c75d858a0b"), looks := false }, kinds := [], alts := [], laidByText := true, laidKinds := [.data, .pinned], laidTests := true, laidLooks := .later }
def ModelTreeCardSaid : Prop := Claim7.holds Tryd.pinned (.plain (OpenSpec.ofChange modelTreeSpec)) modelTreeCard

/-- THE TIED CARD OF 'wainscotlaw10.NameShort'. -/
def nameShortCard : Claim7 := { stood := { row := nameShortRow, standIns := [], harness := (true, "284c49cd6a5ef03cb0b10374fb715a4f6b6efd2702ce299b808f79c75d858a0b"), looks := false }, kinds := [], alts := [], laidByText := true, laidKinds := [.data, .pinned], laidTests := true, laidLooks := .later }
def NameShortCardSaid : Prop := Claim7.holds Tryd.pinned (.plain (OpenSpec.ofChange nameShortSpec)) nameShortCard

/-- THE TIED CARD OF 'wainscotlaw10.NameChars'. -/
def nameCharsCard : Claim7 := { stood := { row := nameCharsRow, standIns := [], harness := (true, "284c49cd6a5ef03cb0b10374fb715a4f6b6efd2702ce299b808f79c75d858a0b"), looks := false }, kinds := [], alts := [], laidByText := true, laidKinds := [.data, .pinned], laidTests := true, laidLooks := .later }
def NameCharsCardSaid : Prop := Claim7.holds Tryd.pinned (.plain (OpenSpec.ofChange nameCharsSpec)) nameCharsCard

/-- THE TIED CARD OF 'wainscotlaw10.NamePaths'. -/
def namePathsCard : Claim7 := { stood := { row := namePathsRow, standIns := [], harness := (true, "284c49cd6a5ef03cb0b10374fb715a4f6b6efd2702ce299b808f79c75d858a0b"), looks := false }, kinds := [], alts := [], laidByText := true, laidKinds := [.data, .pinned], laidTests := true, laidLooks := .later }
def NamePathsCardSaid : Prop := Claim7.holds Tryd.pinned (.plain (OpenSpec.ofChange namePathsSpec)) namePathsCard

/-- THE TIED CARD OF 'wainscotlaw10.NameWidths'. -/
def nameWidthsCard : Claim7 := { stood := { row := nameWidthsRow, standIns := [], harness := (true, "284c49cd6a5ef03cb0b10374fb715a4f6b6efd2702ce299b808f79c75d858a0b"), looks := false }, kinds := [], alts := [], laidByText := true, laidKinds := [.data, .pinned], laidTests := true, laidLooks := .later }
def NameWidthsCardSaid : Prop := Claim7.holds Tryd.pinned (.plain (OpenSpec.ofChange nameWidthsSpec)) nameWidthsCard

/-- THE TIED CARD OF 'wainscotlaw10.NameTells'. -/
def nameTellsCard : Claim7 := { stood := { row := nameTellsRow, standIns := [], harness := (true, "284c49cd6a5ef03cb0b10374fb715a4f6b6efd2702ce299b808f79c75d858a0b"), looks := false }, kinds := [], alts := [], laidByText := true, laidKinds := [.data, .pinned], laidTests := true, laidLooks := .later }
def NameTellsCardSaid : Prop := Claim7.holds Tryd.pinned (.plain (OpenSpec.ofChange nameTellsSpec)) nameTellsCard

/-- THE TIED CARD OF 'wainscotlaw10.NameBack'. -/
def nameBackCard : Claim7 := { stood := { row := nameBackRow, standIns := [], harness := (true, "284c49cd6a5ef03cb0b10374fb715a4f6b6efd2702ce299b808f79c75d858a0b"), looks := false }, kinds := [], alts := [], laidByText := true, laidKinds := [.data, .pinned], laidTests := true, laidLooks := .later }
def NameBackCardSaid : Prop := Claim7.holds Tryd.pinned (.plain (OpenSpec.ofChange nameBackSpec)) nameBackCard

/-- THE TIED CARD OF 'wainscotlaw10.NameBelow'. -/
def nameBelowCard : Claim7 := { stood := { row := nameBelowRow, standIns := [], harness := (true, "284c49cd6a5ef03cb0b10374fb715a4f6b6efd2702ce299b808f79c75d858a0b"), looks := false }, kinds := [], alts := [], laidByText := true, laidKinds := [.data, .pinned], laidTests := true, laidLooks := .later }
def NameBelowCardSaid : Prop := Claim7.holds Tryd.pinned (.plain (OpenSpec.ofChange nameBelowSpec)) nameBelowCard

/-- THE TIED CARD OF 'wainscotlaw15.ModelFiles'. -/
def modelFilesCard : Claim7 := { stood := { row := modelFilesRow, standIns := [], harness := (true, "284c49cd6a5ef03cb0b10374fb715a4f6b6efd2702ce299b808f79c75d858a0b"), looks := false }, kinds := [], alts := [], laidByText := true, laidKinds := [.data, .pinned], laidTests := true, laidLooks := .later }
def ModelFilesCardSaid : Prop := Claim7.holds Tryd.pinned (.plain (OpenSpec.ofChange modelFilesSpec)) modelFilesCard

/-- THE TIED CARD OF 'wainscotlaw15.ModelRenames'. -/
def modelRenamesCard : Claim7 := { stood := { row := modelRenamesRow, standIns := [], harness := (true, "284c49cd6a5ef03cb0b10374fb715a4f6b6efd2702ce299b808f79c75d858a0b"), looks := false }, kinds := [], alts := [], laidByText := true, laidKinds := [.data, .pinned], laidTests := true, laidLooks := .later }
def ModelRenamesCardSaid : Prop := Claim7.holds Tryd.pinned (.plain (OpenSpec.ofChange modelRenamesSpec)) modelRenamesCard

/-- THE TIED CARD OF 'wainscotlaw15.ModelLinks'. -/
def modelLinksCard : Claim7 := { stood := { row := modelLinksRow, standIns := [], harness := (true, "284c49cd6a5ef03cb0b10374fb715a4f6b6efd2702ce299b808f79c75d858a0b"), looks := false }, kinds := [], alts := [], laidByText := true, laidKinds := [.data, .pinned], laidTests := true, laidLooks := .later }
def ModelLinksCardSaid : Prop := Claim7.holds Tryd.pinned (.plain (OpenSpec.ofChange modelLinksSpec)) modelLinksCard

/-- THE TIED CARD OF 'wainscotlaw15.ModelEmpties'. -/
def modelEmptiesCard : Claim7 := { stood := { row := modelEmptiesRow, standIns := [], harness := (true, "284c49cd6a5ef03cb0b10374fb715a4f6b6efd2702ce299b808f79c75d858a0b"), looks := false }, kinds := [], alts := [], laidByText := true, laidKinds := [.data, .pinned], laidTests := true, laidLooks := .later }
def ModelEmptiesCardSaid : Prop := Claim7.holds Tryd.pinned (.plain (OpenSpec.ofChange modelEmptiesSpec)) modelEmptiesCard

/-- THE TIED CARD OF 'wainscotlaw15.ModelErrors'. -/
def modelErrorsCard : Claim7 := { stood := { row := modelErrorsRow, standIns := [], harness := (true, "284c49cd6a5ef03cb0b10374fb715a4f6b6efd2702ce299b808f79c75d858a0b"), looks := false }, kinds := [], alts := [], laidByText := true, laidKinds := [.data, .pinned], laidTests := true, laidLooks := .later }
def ModelErrorsCardSaid : Prop := Claim7.holds Tryd.pinned (.plain (OpenSpec.ofChange modelErrorsSpec)) modelErrorsCard

/-- THE SECOND FORM's CARD OF 'wainscotlaw15.ModelClones'. -/
def modelClonesUptoCard : Claim7 := { stood := { row := modelClonesUptoRow, standIns := [], harness := (true, "284c49cd6a5ef03cb0b10374fb715a4f6b6efd2702ce299b808f79c75d858a0b"), looks := false }, kinds := [], alts := [], laidByText := true, laidKinds := [.data, .pinned], laidTests := true, laidLooks := .later }
def ModelClonesUptoCardSaid : Prop := Claim7.holds Tryd.pinned (.plain (OpenSpec.upto modelClonesSpec)) modelClonesUptoCard

/-- THE SECOND FORM's CARD OF 'wainscotlaw15.ModelTree'. -/
def modelTreeUptoCard : Claim7 := { stood := { row := modelTreeUptoRow, standIns := [], harness := (true, "284c49cd6a5ef03cb0b10374fb715a4f6b6efd2702ce299b808f79c75d858a0b"), looks := false }, kinds := [], alts := [], laidByText := true, laidKinds := [.data, .pinned], laidTests := true, laidLooks := .later }
def ModelTreeUptoCardSaid : Prop := Claim7.holds Tryd.pinned (.plain (OpenSpec.upto modelTreeSpec)) modelTreeUptoCard

/-- THE SECOND FORM's CARD OF 'wainscotlaw10.NameShort'. -/
def nameShortUptoCard : Claim7 := { stood := { row := nameShortUptoRow, standIns := [], harness := (true, "284c49cd6a5ef03cb0b10374fb715a4f6b6efd2702ce299b808f79c75d858a0b"), looks := false }, kinds := [], alts := [], laidByText := true, laidKinds := [.data, .pinned], laidTests := true, laidLooks := .later }
def NameShortUptoCardSaid : Prop := Claim7.holds Tryd.pinned (.plain (OpenSpec.upto nameShortSpec)) nameShortUptoCard

/-- THE SECOND FORM's CARD OF 'wainscotlaw10.NameChars'. -/
def nameCharsUptoCard : Claim7 := { stood := { row := nameCharsUptoRow, standIns := [], harness := (true, "284c49cd6a5ef03cb0b10374fb715a4f6b6efd2702ce299b808f79c75d858a0b"), looks := false }, kinds := [], alts := [], laidByText := true, laidKinds := [.data, .pinned], laidTests := true, laidLooks := .later }
def NameCharsUptoCardSaid : Prop := Claim7.holds Tryd.pinned (.plain (OpenSpec.upto nameCharsSpec)) nameCharsUptoCard

/-- THE SECOND FORM's CARD OF 'wainscotlaw10.NamePaths'. -/
def namePathsUptoCard : Claim7 := { stood := { row := namePathsUptoRow, standIns := [], harness := (true, "284c49cd6a5ef03cb0b10374fb715a4f6b6efd2702ce299b808f79c75d858a0b"), looks := false }, kinds := [], alts := [], laidByText := true, laidKinds := [.data, .pinned], laidTests := true, laidLooks := .later }
def NamePathsUptoCardSaid : Prop := Claim7.holds Tryd.pinned (.plain (OpenSpec.upto namePathsSpec)) namePathsUptoCard

/-- THE SECOND FORM's CARD OF 'wainscotlaw10.NameWidths'. -/
def nameWidthsUptoCard : Claim7 := { stood := { row := nameWidthsUptoRow, standIns := [], harness := (true, "284c49cd6a5ef03cb0b10374fb715a4f6b6efd2702ce299b808f79c75d858a0b"), looks := false }, kinds := [], alts := [], laidByText := true, laidKinds := [.data, .pinned], laidTests := true, laidLooks := .later }
def NameWidthsUptoCardSaid : Prop := Claim7.holds Tryd.pinned (.plain (OpenSpec.upto nameWidthsSpec)) nameWidthsUptoCard

/-- THE SECOND FORM's CARD OF 'wainscotlaw10.NameTells'. -/
def nameTellsUptoCard : Claim7 := { stood := { row := nameTellsUptoRow, standIns := [], harness := (true, "284c49cd6a5ef03cb0b10374fb715a4f6b6efd2702ce299b808f79c75d858a0b"), looks := false }, kinds := [], alts := [], laidByText := true, laidKinds := [.data, .pinned], laidTests := true, laidLooks := .later }
def NameTellsUptoCardSaid : Prop := Claim7.holds Tryd.pinned (.plain (OpenSpec.upto nameTellsSpec)) nameTellsUptoCard

/-- THE SECOND FORM's CARD OF 'wainscotlaw10.NameBack'. -/
def nameBackUptoCard : Claim7 := { stood := { row := nameBackUptoRow, standIns := [], harness := (true, "284c49cd6a5ef03cb0b10374fb715a4f6b6efd2702ce299b808f79c75d858a0b"), looks := false }, kinds := [], alts := [], laidByText := true, laidKinds := [.data, .pinned], laidTests := true, laidLooks := .later }
def NameBackUptoCardSaid : Prop := Claim7.holds Tryd.pinned (.plain (OpenSpec.upto nameBackSpec)) nameBackUptoCard

/-- THE SECOND FORM's CARD OF 'wainscotlaw10.NameBelow'. -/
def nameBelowUptoCard : Claim7 := { stood := { row := nameBelowUptoRow, standIns := [], harness := (true, "284c49cd6a5ef03cb0b10374fb715a4f6b6efd2702ce299b808f79c75d858a0b"), looks := false }, kinds := [], alts := [], laidByText := true, laidKinds := [.data, .pinned], laidTests := true, laidLooks := .later }
def NameBelowUptoCardSaid : Prop := Claim7.holds Tryd.pinned (.plain (OpenSpec.upto nameBelowSpec)) nameBelowUptoCard

/-- THE SECOND FORM's CARD OF 'wainscotlaw15.ModelFiles'. -/
def modelFilesUptoCard : Claim7 := { stood := { row := modelFilesUptoRow, standIns := [], harness := (true, "284c49cd6a5ef03cb0b10374fb715a4f6b6efd2702ce299b808f79c75d858a0b"), looks := false }, kinds := [], alts := [], laidByText := true, laidKinds := [.data, .pinned], laidTests := true, laidLooks := .later }
def ModelFilesUptoCardSaid : Prop := Claim7.holds Tryd.pinned (.plain (OpenSpec.upto modelFilesSpec)) modelFilesUptoCard

/-- THE SECOND FORM's CARD OF 'wainscotlaw15.ModelRenames'. -/
def modelRenamesUptoCard : Claim7 := { stood := { row := modelRenamesUptoRow, standIns := [], harness := (true, "284c49cd6a5ef03cb0b10374fb715a4f6b6efd2702ce299b808f79c75d858a0b"), looks := false }, kinds := [], alts := [], laidByText := true, laidKinds := [.data, .pinned], laidTests := true, laidLooks := .later }
def ModelRenamesUptoCardSaid : Prop := Claim7.holds Tryd.pinned (.plain (OpenSpec.upto modelRenamesSpec)) modelRenamesUptoCard

/-- THE SECOND FORM's CARD OF 'wainscotlaw15.ModelLinks'. -/
def modelLinksUptoCard : Claim7 := { stood := { row := modelLinksUptoRow, standIns := [], harness := (true, "284c49cd6a5ef03cb0b10374fb715a4f6b6efd2702ce299b808f79c75d858a0b"), looks := false }, kinds := [], alts := [], laidByText := true, laidKinds := [.data, .pinned], laidTests := true, laidLooks := .later }
def ModelLinksUptoCardSaid : Prop := Claim7.holds Tryd.pinned (.plain (OpenSpec.upto modelLinksSpec)) modelLinksUptoCard

/-- THE SECOND FORM's CARD OF 'wainscotlaw15.ModelEmpties'. -/
def modelEmptiesUptoCard : Claim7 := { stood := { row := modelEmptiesUptoRow, standIns := [], harness := (true, "284c49cd6a5ef03cb0b10374fb715a4f6b6efd2702ce299b808f79c75d858a0b"), looks := false }, kinds := [], alts := [], laidByText := true, laidKinds := [.data, .pinned], laidTests := true, laidLooks := .later }
def ModelEmptiesUptoCardSaid : Prop := Claim7.holds Tryd.pinned (.plain (OpenSpec.upto modelEmptiesSpec)) modelEmptiesUptoCard

/-- THE SECOND FORM's CARD OF 'wainscotlaw15.ModelErrors'. -/
def modelErrorsUptoCard : Claim7 := { stood := { row := modelErrorsUptoRow, standIns := [], harness := (true, "284c49cd6a5ef03cb0b10374fb715a4f6b6efd2702ce299b808f79c75d858a0b"), looks := false }, kinds := [], alts := [], laidByText := true, laidKinds := [.data, .pinned], laidTests := true, laidLooks := .later }
def ModelErrorsUptoCardSaid : Prop := Claim7.holds Tryd.pinned (.plain (OpenSpec.upto modelErrorsSpec)) modelErrorsUptoCard
end Rows
end Go.Proofs.YtbmbjedpeepnfaaDoor
