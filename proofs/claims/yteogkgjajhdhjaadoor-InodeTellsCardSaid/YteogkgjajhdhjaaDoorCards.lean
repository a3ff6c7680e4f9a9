/-
  DERIVED. GIVEN WITH THE SEED: THE CARDS: each row of YteogkgjajhdhjaaDoorRows.lean that lists a variable, with what it lists TIED to the program's text (the seventh form; the later family's looks); each row that meets fmt, with fmt's text TOLD by the authors' own Lean function (tested against real Go, not proved from fmt's source: count such statements apart). THE CARD IS WHAT COUNTS. Prove the row's statement (the work); the ties are given (YteogkgjajhdhjaaDoorTie.lean); close each card by the builder's one call (the guide's Derived/Test/ToyasCard.lean, 'card_holds'). Laid BY PROGRAM, IN A SANDBOX (cutbox-door.mjs). By AI agents, Wed Nov 11 2026. No macro, syntax, notation, axiom, sorry.
-/
import Derived.Test.YteogkgjajhdhjaaDoorRows
import GoSem.ClaimSeven
namespace Go.Proofs.YteogkgjajhdhjaaDoor
namespace Rows

/-- THE TIED CARD OF 'wainscotlaw11.InodeChunks'. -/
def inodeChunksCard : Claim7 := { stood := { row := inodeChunksRow, standIns := [], harness := (true, "879644d4b576a1fb53cab3707f05e46681989cab49cb3ebe5b14112d0615c62a"), looks := false }, kinds := [], alts := [], laidByText := true, laidKinds := [.data, .pinned], laidTests := true, laidLooks := .later }
def InodeChunksCardSaid : Prop := Claim7.holds Tryd.pinned (.plain (OpenSpec.ofChange inodeChunksSpec)) inodeChunksCard

/-- THE TIED CARD OF 'wainscotlaw11.InodeBounds'. -/
def inodeBoundsCard : Claim7 := { stood := { row := inodeBoundsRow, standIns := [], harness := (true, "879644d4b576a1fb53cab3707f05e46681989cab49cb3ebe5b14112d0615c62a"), looks := false }, kinds := [], alts := [], laidByText := true, laidKinds := [.data, .pinned], laidTests := true, laidLooks := .later }
def InodeBoundsCardSaid : Prop := Claim7.holds Tryd.pinned (.plain (OpenSpec.ofChange inodeBoundsSpec)) inodeBoundsCard

/-- THE TIED CARD OF 'wainscotlaw11.InodeTells'. -/
def inodeTellsCard : Claim7 := { stood := { row := inodeTellsRow, standIns := [], harness := (true, "879644d4b576a1fb53cab3707f05e46681989cab49cb3ebe5b14112d0615c62a"), looks := false }, kinds := [], alts := [], laidByText := true, laidKinds := [.data, .pinned], laidTests := true, laidLooks := .later }
def InodeTellsCardSaid : Prop := Claim7.holds Tryd.pinned (.plain (OpenSpec.ofChange inodeTellsSpec)) inodeTellsCard

/-- THE TIED CARD OF 'wainscotlaw11.InodeBack'. -/
def inodeBackCard : Claim7 := { stood := { row := inodeBackRow, standIns := [], harness := (true, "879644d4b576a1fb53cab3707f05e46681989cab49cb3ebe5b14112d0615c62a"), looks := false }, kinds := [], alts := [], laidByText := true, laidKinds := [.data, .pinned], laidTests := true, laidLooks := .later }
def InodeBackCardSaid : Prop := Claim7.holds Tryd.pinned (.plain (OpenSpec.ofChange inodeBackSpec)) inodeBackCard

/-- THE TIED CARD OF 'wainscotlaw11.InodeUnlike'. -/
def inodeUnlikeCard : Claim7 := { stood := { row := inodeUnlikeRow, standIns := [], harness := (true, "879644d4b576a1fb53cab3707f05e46681989cab49cb3ebe5b14112d0615c62a"), looks := false }, kinds := [], alts := [], laidByText := true, laidKinds := [.data, .pinned], laidTests := true, laidLooks := .later }
def InodeUnlikeCardSaid : Prop := Claim7.holds Tryd.pinned (.plain (OpenSpec.ofChange inodeUnlikeSpec)) inodeUnlikeCard

/-- THE SECOND FORM's CARD OF 'wainscotlaw11.InodeChunks'. -/
def inodeChunksUptoCard : Claim7 := { stood := { row := inodeChunksUptoRow, standIns := [], harness := (true, "879644d4b576a1fb53cab3707f05e46681989cab49cb3ebe5b14112d0615c62a"), looks := false }, kinds := [], alts := [], laidByText := true, laidKinds := [.data, .pinned], laidTests := true, laidLooks := .later }
def InodeChunksUptoCardSaid : Prop := Claim7.holds Tryd.pinned (.plain (OpenSpec.upto inodeChunksSpec)) inodeChunksUptoCard

/-- THE SECOND FORM's CARD OF 'wainscotlaw11.InodeBounds'. -/
def inodeBoundsUptoCard : Claim7 := { stood := { row := inodeBoundsUptoRow, standIns := [], harness := (true, "879644d4b576a1fb53cab3707f05e46681989cab49cb3ebe5b14112d0615c62a"), looks := false }, kinds := [], alts := [], laidByText := true, laidKinds := [.data, .pinned], laidTests := true, laidLooks := .later }
def InodeBoundsUptoCardSaid : Prop := Claim7.holds Tryd.pinned (.plain (OpenSpec.upto inodeBoundsSpec)) inodeBoundsUptoCard

/-- THE SECOND FORM's CARD OF 'wainscotlaw11.InodeTells'. -/
def inodeTellsUptoCard : Claim7 := { stood := { row := inodeTellsUptoRow, standIns := [], harness := (true, "879644d4b576a1fb53cab3707f05e46681989cab49cb3ebe5b14112d0615c62a"), looks := false }, kinds := [], alts := [], laidByText := true, laidKinds := [.data, .pinned], laidTests := true, laidLooks := .later }
def InodeTellsUptoCardSaid : Prop := Claim7.holds Tryd.pinned (.plain (OpenSpec.upto inodeTellsSpec)) inodeTellsUptoCard

/-- THE SECOND FORM's CARD OF 'wainscotlaw11.InodeBack'. -/
def inodeBackUptoCard : Claim7 := { stood := { row := inodeBackUptoRow, standIns := [], harness := (true, "879644d4b576a1fb53cab3707f05e46681989cab49cb3ebe5b14112d0615c62a"), looks := false }, kinds := [], alts := [], laidByText := true, laidKinds := [.data, .pinned], laidTests := true, laidLooks := .later }
def InodeBackUptoCardSaid : Prop := Claim7.holds Tryd.pinned (.plain (OpenSpec.upto inodeBackSpec)) inodeBackUptoCard

/-- THE SECOND FORM's CARD OF 'wainscotlaw11.InodeUnlike'. -/
def inodeUnlikeUptoCard : Claim7 := { stood := { row := inodeUnlikeUptoRow, standIns := [], harness := (true, "879644d4b576a1fb53cab3707f05e46681989cab49cb3ebe5b14112d0615c62a"), looks := false }, kinds := [], alts := [], laidByText := true, laidKinds := [.data, .pinned], laidTests := true, laidLooks := .later }
def InodeUnlikeUptoCardSaid : Prop := Claim7.holds Tryd.pinned (.plain (OpenSpec.upto inodeUnlikeSpec)) inodeUnlikeUptoCard
end Rows
end Go.Proofs.YteogkgjajhdhjaaDoor
