/-
  NARROWER THAN 'FOR EVERY INPUT', by the rows' own cells (each row's printed sentence says how): ModelClones: laid · ModelTree: laid · NameShort: laid · NameChars: laid · NamePaths: laid · NameWidths: laid · NameTells: laid · NameBack: laid · NameBelow: laid · ModelFiles: laid · ModelRenames: laid · ModelLinks: laid · ModelEmpties: laid · ModelErrors: laid.
  DERIVED. THE GIVEN ROWS OF THIS SEAT. 14 by the template 'for every input the law returns true; each argument reads behind the call as it read before'; 0 by the template 'total and deterministic' (their statements: YtbmbjedpeepnfaaDoorTotals.lean).
  GIVEN WITH THE SEED: the statements are not yours to turn. If you find one false, say at which input.
  Laid BY PROGRAM, IN A SANDBOX (cutbox-rows.mjs): the forced cells as the released guide's own fill.sh prints them over the translation e0a88a9f943e5781… (all of the seat's roots in one cut). By AI agents, Wed Nov 11 2026. No macro, syntax, notation, axiom, sorry.
-/
import Derived.Test.YtbmbjedpeepnfaaDoorChecked
import GoSem.PinnedTables
import GoSem.Claim
import GoSem.ClaimJoined
import GoSem.ClaimMapViews
import Derived.JoinedTies
import Derived.KernelRfl
namespace Go.Proofs.YtbmbjedpeepnfaaDoor
/- THE CELL 'sum', in the pinned program and in every row, IS THE sha256 OF THE DUMP (.gsa) THAT YtbmbjedpeepnfaaDoorProg.lean LOADS. Nothing in Lean hashes anything: it is a label: what it is worth is what the hold of that sum in a sandbox is worth. -/
noncomputable def Tryd.pinned : Pinned := { name := "ytbmbjedpeepnfaadoor", sum := "e0a88a9f943e57812bb2950b540b2190fb1f4db56166b0f4e28a08b4775afd75", checked := Tryd.checked }
namespace Rows
def none {H : Type} : Left H := { results := [], args := [] }

/- WHAT THE LISTED PACKAGE-LEVEL VARIABLES READ AS WHEN THE CALL BEGINS. Each datum BY PROGRAM (the guide's laid-datum.mjs) off the statement by which the dump's own 'gosem.cut.vars' lays the variable. In a bare row this is a premise. The card (YtbmbjedpeepnfaaDoorCards.lean) ties it to the program's text. -/
def laid_unicode_utf8_acceptRanges {H : Type} : DataW H := .agg [.agg [.lit (.int .u8 128), .lit (.int .u8 191)], .agg [.lit (.int .u8 160), .lit (.int .u8 191)], .agg [.lit (.int .u8 128), .lit (.int .u8 159)], .agg [.lit (.int .u8 144), .lit (.int .u8 191)], .agg [.lit (.int .u8 128), .lit (.int .u8 143)], .agg [.lit (.int .u8 0), .lit (.int .u8 0)], .agg [.lit (.int .u8 0), .lit (.int .u8 0)], .agg [.lit (.int .u8 0), .lit (.int .u8 0)], .agg [.lit (.int .u8 0), .lit (.int .u8 0)], .agg [.lit (.int .u8 0), .lit (.int .u8 0)], .agg [.lit (.int .u8 0), .lit (.int .u8 0)], .agg [.lit (.int .u8 0), .lit (.int .u8 0)], .agg [.lit (.int .u8 0), .lit (.int .u8 0)], .agg [.lit (.int .u8 0), .lit (.int .u8 0)], .agg [.lit (.int .u8 0), .lit (.int .u8 0)], .agg [.lit (.int .u8 0), .lit (.int .u8 0)]]
/-- One of Go's own tables, pinned by name: the form's constant. -/
def laid_unicode_utf8_first : DataW Unit := Go.Pinned.utf8First

/-- 'wainscotlaw15.ModelClones': WHATEVER THE INPUT: true; the input reads as it did. -/
def modelClonesSpec : ChangeSpec := { name := "modelClones", fn := fun _ => fun
  | [d1, d2, d3] => { results := [.lit (.bool true)], args := [d1, d2, d3] }
  | _ => none }
def modelClonesRow : OpenClaim := { program := "ytbmbjedpeepnfaadoor", sum := "e0a88a9f943e57812bb2950b540b2190fb1f4db56166b0f4e28a08b4775afd75", func := "wainscot/wainscotlaw15.ModelClones", spec := "modelClones", inPlace := ["internal/bytealg.CountString", "internal/bytealg.IndexByteString", "internal/bytealg.IndexString"], unfollowed := true, recurses := true, named := ["unicode/utf8.first", "unicode/utf8.acceptRanges", "internal/bytealg.MaxLen"], apart := false, laid := [("unicode/utf8.acceptRanges", laid_unicode_utf8_acceptRanges), ("unicode/utf8.first", laid_unicode_utf8_first)] }
def ModelClonesSaid : Prop := modelClonesRow.holds Tryd.pinned (OpenSpec.ofChange modelClonesSpec)

/-- ITS FALSE NEIGHBOUR: 'it returns false'. Refute it at one input. -/
def modelClonesWrong : ChangeSpec := { name := "modelClones", fn := fun _ => fun
  | [d1, d2, d3] => { results := [.lit (.bool false)], args := [d1, d2, d3] }
  | _ => none }
def ModelClonesWrongFalsely : Prop := modelClonesRow.holds Tryd.pinned (OpenSpec.ofChange modelClonesWrong)

/-- 'wainscotlaw15.ModelTree': WHATEVER THE INPUT: true; the input reads as it did. -/
def modelTreeSpec : ChangeSpec := { name := "modelTree", fn := fun _ => fun
  | [d] => { results := [.lit (.bool true)], args := [d] }
  | _ => none }
def modelTreeRow : OpenClaim := { program := "ytbmbjedpeepnfaadoor", sum := "e0a88a9f943e57812bb2950b540b2190fb1f4db56166b0f4e28a08b4775afd75", func := "wainscot/wainscotlaw15.ModelTree", spec := "modelTree", inPlace := ["internal/bytealg.CountString", "internal/bytealg.IndexByteString", "internal/bytealg.IndexString", "internal/abi.NoEscape", "internal/bytealg.MakeNoZero"], unfollowed := true, recurses := true, named := ["unicode/utf8.first", "unicode/utf8.acceptRanges", "internal/bytealg.MaxLen"], apart := false, laid := [("unicode/utf8.acceptRanges", laid_unicode_utf8_acceptRanges), ("unicode/utf8.first", laid_unicode_utf8_first)] }
def ModelTreeSaid : Prop := modelTreeRow.holds Tryd.pinned (OpenSpec.ofChange modelTreeSpec)

/-- ITS FALSE NEIGHBOUR: 'it returns false'. Refute it at one input. -/
def modelTreeWrong : ChangeSpec := { name := "modelTree", fn := fun _ => fun
  | [d] => { results := [.lit (.bool false)], args := [d] }
  | _ => none }
def ModelTreeWrongFalsely : Prop := modelTreeRow.holds Tryd.pinned (OpenSpec.ofChange modelTreeWrong)

/-- 'wainscotlaw10.NameShort': WHATEVER THE INPUT: true; the input reads as it did. -/
def nameShortSpec : ChangeSpec := { name := "nameShort", fn := fun _ => fun
  | [d1, d2] => { results := [.lit (.bool true)], args := [d1, d2] }
  | _ => none }
def nameShortRow : OpenClaim := { program := "ytbmbjedpeepnfaadoor", sum := "e0a88a9f943e57812bb2950b540b2190fb1f4db56166b0f4e28a08b4775afd75", func := "wainscot/wainscotlaw10.NameShort", spec := "nameShort", inPlace := ["internal/bytealg.CountString", "internal/bytealg.IndexByteString", "internal/bytealg.IndexString"], unfollowed := true, recurses := true, named := ["unicode/utf8.first", "unicode/utf8.acceptRanges", "internal/bytealg.MaxLen"], apart := false, laid := [("unicode/utf8.acceptRanges", laid_unicode_utf8_acceptRanges), ("unicode/utf8.first", laid_unicode_utf8_first)] }
def NameShortSaid : Prop := nameShortRow.holds Tryd.pinned (OpenSpec.ofChange nameShortSpec)

/-- ITS FALSE NEIGHBOUR: 'it returns false'. Refute it at one input. -/
def nameShortWrong : ChangeSpec := { name := "nameShort", fn := fun _ => fun
  | [d1, d2] => { results := [.lit (.bool false)], args := [d1, d2] }
  | _ => none }
def NameShortWrongFalsely : Prop := nameShortRow.holds Tryd.pinned (OpenSpec.ofChange nameShortWrong)

/-- 'wainscotlaw10.NameChars': WHATEVER THE INPUT: true; the input reads as it did. -/
def nameCharsSpec : ChangeSpec := { name := "nameChars", fn := fun _ => fun
  | [d] => { results := [.lit (.bool true)], args := [d] }
  | _ => none }
def nameCharsRow : OpenClaim := { program := "ytbmbjedpeepnfaadoor", sum := "e0a88a9f943e57812bb2950b540b2190fb1f4db56166b0f4e28a08b4775afd75", func := "wainscot/wainscotlaw10.NameChars", spec := "nameChars", inPlace := ["internal/bytealg.CountString", "internal/bytealg.IndexByteString", "internal/bytealg.IndexString"], unfollowed := true, recurses := true, named := ["unicode/utf8.first", "unicode/utf8.acceptRanges", "internal/bytealg.MaxLen"], apart := false, laid := [("unicode/utf8.acceptRanges", laid_unicode_utf8_acceptRanges), ("unicode/utf8.first", laid_unicode_utf8_first)] }
def NameCharsSaid : Prop := nameCharsRow.holds Tryd.pinned (OpenSpec.ofChange nameCharsSpec)

/-- ITS FALSE NEIGHBOUR: 'it returns false'. Refute it at one input. -/
def nameCharsWrong : ChangeSpec := { name := "nameChars", fn := fun _ => fun
  | [d] => { results := [.lit (.bool false)], args := [d] }
  | _ => none }
def NameCharsWrongFalsely : Prop := nameCharsRow.holds Tryd.pinned (OpenSpec.ofChange nameCharsWrong)

/-- 'wainscotlaw10.NamePaths': WHATEVER THE INPUT: true; the input reads as it did. -/
def namePathsSpec : ChangeSpec := { name := "namePaths", fn := fun _ => fun
  | [d1, d2] => { results := [.lit (.bool true)], args := [d1, d2] }
  | _ => none }
def namePathsRow : OpenClaim := { program := "ytbmbjedpeepnfaadoor", sum := "e0a88a9f943e57812bb2950b540b2190fb1f4db56166b0f4e28a08b4775afd75", func := "wainscot/wainscotlaw10.NamePaths", spec := "namePaths", inPlace := ["internal/bytealg.CountString", "internal/bytealg.IndexByteString", "internal/bytealg.IndexString"], unfollowed := true, recurses := true, named := ["unicode/utf8.first", "unicode/utf8.acceptRanges", "internal/bytealg.MaxLen"], apart := false, laid := [("unicode/utf8.acceptRanges", laid_unicode_utf8_acceptRanges), ("unicode/utf8.first", laid_unicode_utf8_first)] }
def NamePathsSaid : Prop := namePathsRow.holds Tryd.pinned (OpenSpec.ofChange namePathsSpec)

/-- ITS FALSE NEIGHBOUR: 'it returns false'. Refute it at one input. -/
def namePathsWrong : ChangeSpec := { name := "namePaths", fn := fun _ => fun
  | [d1, d2] => { results := [.lit (.bool false)], args := [d1, d2] }
  | _ => none }
def NamePathsWrongFalsely : Prop := namePathsRow.holds Tryd.pinned (OpenSpec.ofChange namePathsWrong)

/-- 'wainscotlaw10.NameWidths': WHATEVER THE INPUT: true; the input reads as it did. -/
def nameWidthsSpec : ChangeSpec := { name := "nameWidths", fn := fun _ => fun
  | [d1, d2, d3] => { results := [.lit (.bool true)], args := [d1, d2, d3] }
  | _ => none }
def nameWidthsRow : OpenClaim := { program := "ytbmbjedpeepnfaadoor", sum := "e0a88a9f943e57812bb2950b540b2190fb1f4db56166b0f4e28a08b4775afd75", func := "wainscot/wainscotlaw10.NameWidths", spec := "nameWidths", inPlace := ["internal/bytealg.CountString", "internal/bytealg.IndexByteString", "internal/bytealg.IndexString"], unfollowed := true, recurses := true, named := ["unicode/utf8.first", "unicode/utf8.acceptRanges", "internal/bytealg.MaxLen"], apart := false, laid := [("unicode/utf8.acceptRanges", laid_unicode_utf8_acceptRanges), ("unicode/utf8.first", laid_unicode_utf8_first)] }
def NameWidthsSaid : Prop := nameWidthsRow.holds Tryd.pinned (OpenSpec.ofChange nameWidthsSpec)

/-- ITS FALSE NEIGHBOUR: 'it returns false'. Refute it at one input. -/
def nameWidthsWrong : ChangeSpec := { name := "nameWidths", fn := fun _ => fun
  | [d1, d2, d3] => { results := [.lit (.bool false)], args := [d1, d2, d3] }
  | _ => none }
def NameWidthsWrongFalsely : Prop := nameWidthsRow.holds Tryd.pinned (OpenSpec.ofChange nameWidthsWrong)

/-- 'wainscotlaw10.NameTells': WHATEVER THE INPUT: true; the input reads as it did. -/
def nameTellsSpec : ChangeSpec := { name := "nameTells", fn := fun _ => fun
  | [d1, d2, d3, d4] => { results := [.lit (.bool true)], args := [d1, d2, d3, d4] }
  | _ => none }
def nameTellsRow : OpenClaim := { program := "ytbmbjedpeepnfaadoor", sum := "e0a88a9f943e57812bb2950b540b2190fb1f4db56166b0f4e28a08b4775afd75", func := "wainscot/wainscotlaw10.NameTells", spec := "nameTells", inPlace := ["internal/bytealg.CountString", "internal/bytealg.IndexByteString", "internal/bytealg.IndexString", "internal/abi.NoEscape", "internal/bytealg.MakeNoZero"], unfollowed := true, recurses := true, named := ["unicode/utf8.first", "unicode/utf8.acceptRanges", "internal/bytealg.MaxLen"], apart := false, laid := [("unicode/utf8.acceptRanges", laid_unicode_utf8_acceptRanges), ("unicode/utf8.first", laid_unicode_utf8_first)] }
def NameTellsSaid : Prop := nameTellsRow.holds Tryd.pinned (OpenSpec.ofChange nameTellsSpec)

/-- ITS FALSE NEIGHBOUR: 'it returns false'. Refute it at one input. -/
def nameTellsWrong : ChangeSpec := { name := "nameTells", fn := fun _ => fun
  | [d1, d2, d3, d4] => { results := [.lit (.bool false)], args := [d1, d2, d3, d4] }
  | _ => none }
def NameTellsWrongFalsely : Prop := nameTellsRow.holds Tryd.pinned (OpenSpec.ofChange nameTellsWrong)

/-- 'wainscotlaw10.NameBack': WHATEVER THE INPUT: true; the input reads as it did. -/
def nameBackSpec : ChangeSpec := { name := "nameBack", fn := fun _ => fun
  | [d1, d2] => { results := [.lit (.bool true)], args := [d1, d2] }
  | _ => none }
def nameBackRow : OpenClaim := { program := "ytbmbjedpeepnfaadoor", sum := "e0a88a9f943e57812bb2950b540b2190fb1f4db56166b0f4e28a08b4775afd75", func := "wainscot/wainscotlaw10.NameBack", spec := "nameBack", inPlace := ["internal/bytealg.CountString", "internal/bytealg.IndexByteString", "internal/bytealg.IndexString", "internal/abi.NoEscape", "internal/bytealg.MakeNoZero"], unfollowed := true, recurses := true, named := ["unicode/utf8.first", "unicode/utf8.acceptRanges", "internal/bytealg.MaxLen"], apart := false, laid := [("unicode/utf8.acceptRanges", laid_unicode_utf8_acceptRanges), ("unicode/utf8.first", laid_unicode_utf8_first)] }
def NameBackSaid : Prop := nameBackRow.holds Tryd.pinned (OpenSpec.ofChange nameBackSpec)

/-- ITS FALSE NEIGHBOUR: 'it returns false'. Refute it at one input. -/
def nameBackWrong : ChangeSpec := { name := "nameBack", fn := fun _ => fun
  | [d1, d2] => { results := [.lit (.bool false)], args := [d1, d2] }
  | _ => none }
def NameBackWrongFalsely : Prop := nameBackRow.holds Tryd.pinned (OpenSpec.ofChange nameBackWrong)

/-- 'wainscotlaw10.NameBelow': WHATEVER THE INPUT: true; the input reads as it did. -/
def nameBelowSpec : ChangeSpec := { name := "nameBelow", fn := fun _ => fun
  | [d1, d2] => { results := [.lit (.bool true)], args := [d1, d2] }
  | _ => none }
def nameBelowRow : OpenClaim := { program := "ytbmbjedpeepnfaadoor", sum := "e0a88a9f943e57812bb2950b540b2190fb1f4db56166b0f4e28a08b4775afd75", func := "wainscot/wainscotlaw10.NameBelow", spec := "nameBelow", inPlace := ["internal/bytealg.CountString", "internal/bytealg.IndexByteString", "internal/bytealg.IndexString", "internal/abi.NoEscape", "internal/bytealg.MakeNoZero"], unfollowed := true, recurses := true, named := ["unicode/utf8.first", "unicode/utf8.acceptRanges", "internal/bytealg.MaxLen"], apart := false, laid := [("unicode/utf8.acceptRanges", laid_unicode_utf8_acceptRanges), ("unicode/utf8.first", laid_unicode_utf8_first)] }
def NameBelowSaid : Prop := nameBelowRow.holds Tryd.pinned (OpenSpec.ofChange nameBelowSpec)

/-- ITS FALSE NEIGHBOUR: 'it returns false'. Refute it at one input. -/
def nameBelowWrong : ChangeSpec := { name := "nameBelow", fn := fun _ => fun
  | [d1, d2] => { results := [.lit (.bool false)], args := [d1, d2] }
  | _ => none }
def NameBelowWrongFalsely : Prop := nameBelowRow.holds Tryd.pinned (OpenSpec.ofChange nameBelowWrong)

/-- 'wainscotlaw15.ModelFiles': WHATEVER THE INPUT: true; the input reads as it did. -/
def modelFilesSpec : ChangeSpec := { name := "modelFiles", fn := fun _ => fun
  | [d] => { results := [.lit (.bool true)], args := [d] }
  | _ => none }
def modelFilesRow : OpenClaim := { program := "ytbmbjedpeepnfaadoor", sum := "e0a88a9f943e57812bb2950b540b2190fb1f4db56166b0f4e28a08b4775afd75", func := "wainscot/wainscotlaw15.ModelFiles", spec := "modelFiles", inPlace := ["internal/bytealg.CountString", "internal/bytealg.IndexByteString", "internal/bytealg.IndexString"], unfollowed := true, recurses := true, named := ["unicode/utf8.first", "unicode/utf8.acceptRanges", "internal/bytealg.MaxLen"], apart := false, laid := [("unicode/utf8.acceptRanges", laid_unicode_utf8_acceptRanges), ("unicode/utf8.first", laid_unicode_utf8_first)] }
def ModelFilesSaid : Prop := modelFilesRow.holds Tryd.pinned (OpenSpec.ofChange modelFilesSpec)

/-- ITS FALSE NEIGHBOUR: 'it returns false'. Refute it at one input. -/
def modelFilesWrong : ChangeSpec := { name := "modelFiles", fn := fun _ => fun
  | [d] => { results := [.lit (.bool false)], args := [d] }
  | _ => none }
def ModelFilesWrongFalsely : Prop := modelFilesRow.holds Tryd.pinned (OpenSpec.ofChange modelFilesWrong)

/-- 'wainscotlaw15.ModelRenames': WHATEVER THE INPUT: true; the input reads as it did. -/
def modelRenamesSpec : ChangeSpec := { name := "modelRenames", fn := fun _ => fun
  | [d1, d2, d3] => { results := [.lit (.bool true)], args := [d1, d2, d3] }
  | _ => none }
def modelRenamesRow : OpenClaim := { program := "ytbmbjedpeepnfaadoor", sum := "e0a88a9f943e57812bb2950b540b2190fb1f4db56166b0f4e28a08b4775afd75", func := "wainscot/wainscotlaw15.ModelRenames", spec := "modelRenames", inPlace := ["internal/bytealg.CountString", "internal/bytealg.IndexByteString", "internal/bytealg.IndexString"], unfollowed := true, recurses := true, named := ["unicode/utf8.first", "unicode/utf8.acceptRanges", "internal/bytealg.MaxLen"], apart := false, laid := [("unicode/utf8.acceptRanges", laid_unicode_utf8_acceptRanges), ("unicode/utf8.first", laid_unicode_utf8_first)] }
def ModelRenamesSaid : Prop := modelRenamesRow.holds Tryd.pinned (OpenSpec.ofChange modelRenamesSpec)

/-- ITS FALSE NEIGHBOUR: 'it returns false'. Refute it at one input. -/
def modelRenamesWrong : ChangeSpec := { name := "modelRenames", fn := fun _ => fun
  | [d1, d2, d3] => { results := [.lit (.bool false)], args := [d1, d2, d3] }
  | _ => none }
def ModelRenamesWrongFalsely : Prop := modelRenamesRow.holds Tryd.pinned (OpenSpec.ofChange modelRenamesWrong)

/-- 'wainscotlaw15.ModelLinks': WHATEVER THE INPUT: true; the input reads as it did. -/
def modelLinksSpec : ChangeSpec := { name := "modelLinks", fn := fun _ => fun
  | [d] => { results := [.lit (.bool true)], args := [d] }
  | _ => none }
def modelLinksRow : OpenClaim := { program := "ytbmbjedpeepnfaadoor", sum := "e0a88a9f943e57812bb2950b540b2190fb1f4db56166b0f4e28a08b4775afd75", func := "wainscot/wainscotlaw15.ModelLinks", spec := "modelLinks", inPlace := ["internal/bytealg.CountString", "internal/bytealg.IndexByteString", "internal/bytealg.IndexString"], unfollowed := true, recurses := true, named := ["unicode/utf8.first", "unicode/utf8.acceptRanges", "internal/bytealg.MaxLen"], apart := false, laid := [("unicode/utf8.acceptRanges", laid_unicode_utf8_acceptRanges), ("unicode/utf8.first", laid_unicode_utf8_first)] }
def ModelLinksSaid : Prop := modelLinksRow.holds Tryd.pinned (OpenSpec.ofChange modelLinksSpec)

/-- ITS FALSE NEIGHBOUR: 'it returns false'. Refute it at one input. -/
def modelLinksWrong : ChangeSpec := { name := "modelLinks", fn := fun _ => fun
  | [d] => { results := [.lit (.bool false)], args := [d] }
  | _ => none }
def ModelLinksWrongFalsely : Prop := modelLinksRow.holds Tryd.pinned (OpenSpec.ofChange modelLinksWrong)

/-- 'wainscotlaw15.ModelEmpties': WHATEVER THE INPUT: true; the input reads as it did. -/
def modelEmptiesSpec : ChangeSpec := { name := "modelEmpties", fn := fun _ => fun
  | [d] => { results := [.lit (.bool true)], args := [d] }
  | _ => none }
def modelEmptiesRow : OpenClaim := { program := "ytbmbjedpeepnfaadoor", sum := "e0a88a9f943e57812bb2950b540b2190fb1f4db56166b0f4e28a08b4775afd75", func := "wainscot/wainscotlaw15.ModelEmpties", spec := "modelEmpties", inPlace := ["internal/bytealg.CountString", "internal/bytealg.IndexByteString", "internal/bytealg.IndexString"], unfollowed := true, recurses := true, named := ["unicode/utf8.first", "unicode/utf8.acceptRanges", "internal/bytealg.MaxLen"], apart := false, laid := [("unicode/utf8.acceptRanges", laid_unicode_utf8_acceptRanges), ("unicode/utf8.first", laid_unicode_utf8_first)] }
def ModelEmptiesSaid : Prop := modelEmptiesRow.holds Tryd.pinned (OpenSpec.ofChange modelEmptiesSpec)

/-- ITS FALSE NEIGHBOUR: 'it returns false'. Refute it at one input. -/
def modelEmptiesWrong : ChangeSpec := { name := "modelEmpties", fn := fun _ => fun
  | [d] => { results := [.lit (.bool false)], args := [d] }
  | _ => none }
def ModelEmptiesWrongFalsely : Prop := modelEmptiesRow.holds Tryd.pinned (OpenSpec.ofChange modelEmptiesWrong)

/-- 'wainscotlaw15.ModelErrors': WHATEVER THE INPUT: true; the input reads as it did. -/
def modelErrorsSpec : ChangeSpec := { name := "modelErrors", fn := fun _ => fun
  | [d1, d2] => { results := [.lit (.bool true)], args := [d1, d2] }
  | _ => none }
def modelErrorsRow : OpenClaim := { program := "ytbmbjedpeepnfaadoor", sum := "e0a88a9f943e57812bb2950b540b2190fb1f4db56166b0f4e28a08b4775afd75", func := "wainscot/wainscotlaw15.ModelErrors", spec := "modelErrors", inPlace := ["internal/bytealg.CountString", "internal/bytealg.IndexByteString", "internal/bytealg.IndexString"], unfollowed := true, recurses := true, named := ["unicode/utf8.first", "unicode/utf8.acceptRanges", "internal/bytealg.MaxLen"], apart := false, laid := [("unicode/utf8.acceptRanges", laid_unicode_utf8_acceptRanges), ("unicode/utf8.first", laid_unicode_utf8_first)] }
def ModelErrorsSaid : Prop := modelErrorsRow.holds Tryd.pinned (OpenSpec.ofChange modelErrorsSpec)

/-- ITS FALSE NEIGHBOUR: 'it returns false'. Refute it at one input. -/
def modelErrorsWrong : ChangeSpec := { name := "modelErrors", fn := fun _ => fun
  | [d1, d2] => { results := [.lit (.bool false)], args := [d1, d2] }
  | _ => none }
def ModelErrorsWrongFalsely : Prop := modelErrorsRow.holds Tryd.pinned (OpenSpec.ofChange modelErrorsWrong)

/- THE SECOND FORM. 'bulk': how many values and letters a reading holds, each counted each time it is reached (what is shared counts as often as it is met; a slice's spare places count too). A statement '..UptoSaid' is the law's where the arguments, and the package variables that the reading takes, are together of bulk at most 1048576: NARROWER than '..Said'. Prove '..Said' where nothing that the law and all that it calls make is longer than what came in: it says more and counts as full. Else prove '..UptoSaid'. A law counts once. -/
mutual
def uptoBulk {H : Type} : DataW H → Nat
  | .lit (.string bytes) => bytes.length + 1
  | .lit _ => 1
  | .nil => 1
  | .ptr d => uptoBulk d + 1
  | .slice elems spare => uptoBulkAll elems + uptoBulkAll spare + 1
  | .agg parts => uptoBulkAll parts + 1
  | .iface _ d => uptoBulk d + 1
  | .map entries => uptoBulkEntries entries + 1
  | .held _ => 1
def uptoBulkAll {H : Type} : List (DataW H) → Nat
  | [] => 0
  | d :: r => uptoBulk d + uptoBulkAll r
def uptoBulkEntries {H : Type} : List (Lit × DataW H) → Nat
  | [] => 0
  | x :: r => uptoBulkEntry x + uptoBulkEntries r
def uptoBulkEntry {H : Type} : Lit × DataW H → Nat
  | (.string bytes, d) => bytes.length + uptoBulk d + 1
  | (_, d) => uptoBulk d + 1
 end
def uptoSmall : (H : Type) → List (DataW H) → Bool := fun _ ds => decide (uptoBulkAll ds ≤ 1048576)
def OpenSpec.upto (s : _root_.Go.ChangeSpec) : _root_.Go.OpenSpec := { _root_.Go.OpenSpec.ofChange s with cond := some uptoSmall }

/-- 'wainscotlaw15.ModelClones', WHERE WHAT IT READS IS OF BULK AT MOST 1048576: true; the input reads as it did. -/
def modelClonesUptoRow : OpenClaim := { program := "ytbmbjedpeepnfaadoor", sum := "e0a88a9f943e57812bb2950b540b2190fb1f4db56166b0f4e28a08b4775afd75", func := "wainscot/wainscotlaw15.ModelClones", spec := "modelClones", inPlace := ["internal/bytealg.CountString", "internal/bytealg.IndexByteString", "internal/bytealg.IndexString"], unfollowed := true, recurses := true, named := ["unicode/utf8.first", "unicode/utf8.acceptRanges", "internal/bytealg.MaxLen"], apart := false, laid := [("unicode/utf8.acceptRanges", laid_unicode_utf8_acceptRanges), ("unicode/utf8.first", laid_unicode_utf8_first)], narrowed := true }
def ModelClonesUptoSaid : Prop := modelClonesUptoRow.holds Tryd.pinned (OpenSpec.upto modelClonesSpec)

/-- 'wainscotlaw15.ModelTree', WHERE WHAT IT READS IS OF BULK AT MOST 1048576: true; the input reads as it did. -/
def modelTreeUptoRow : OpenClaim := { program := "ytbmbjedpeepnfaadoor", sum := "e0a88a9f943e57812bb2950b540b2190fb1f4db56166b0f4e28a08b4775afd75", func := "wainscot/wainscotlaw15.ModelTree", spec := "modelTree", inPlace := ["internal/bytealg.CountString", "internal/bytealg.IndexByteString", "internal/bytealg.IndexString", "internal/abi.NoEscape", "internal/bytealg.MakeNoZero"], unfollowed := true, recurses := true, named := ["unicode/utf8.first", "unicode/utf8.acceptRanges", "internal/bytealg.MaxLen"], apart := false, laid := [("unicode/utf8.acceptRanges", laid_unicode_utf8_acceptRanges), ("unicode/utf8.first", laid_unicode_utf8_first)], narrowed := true }
def ModelTreeUptoSaid : Prop := modelTreeUptoRow.holds Tryd.pinned (OpenSpec.upto modelTreeSpec)

/-- 'wainscotlaw10.NameShort', WHERE WHAT IT READS IS OF BULK AT MOST 1048576: true; the input reads as it did. -/
def nameShortUptoRow : OpenClaim := { program := "ytbmbjedpeepnfaadoor", sum := "e0a88a9f943e57812bb2950b540b2190fb1f4db56166b0f4e28a08b4775afd75", func := "wainscot/wainscotlaw10.NameShort", spec := "nameShort", inPlace := ["internal/bytealg.CountString", "internal/bytealg.IndexByteString", "internal/bytealg.IndexString"], unfollowed := true, recurses := true, named := ["unicode/utf8.first", "unicode/utf8.acceptRanges", "internal/bytealg.MaxLen"], apart := false, laid := [("unicode/utf8.acceptRanges", laid_unicode_utf8_acceptRanges), ("unicode/utf8.first", laid_unicode_utf8_first)], narrowed := true }
def NameShortUptoSaid : Prop := nameShortUptoRow.holds Tryd.pinned (OpenSpec.upto nameShortSpec)

/-- 'wainscotlaw10.NameChars', WHERE WHAT IT READS IS OF BULK AT MOST 1048576: true; the input reads as it did. -/
def nameCharsUptoRow : OpenClaim := { program := "ytbmbjedpeepnfaadoor", sum := "e0a88a9f943e57812bb2950b540b2190fb1f4db56166b0f4e28a08b4775afd75", func := "wainscot/wainscotlaw10.NameChars", spec := "nameChars", inPlace := ["internal/bytealg.CountString", "internal/bytealg.IndexByteString", "internal/bytealg.IndexString"], unfollowed := true, recurses := true, named := ["unicode/utf8.first", "unicode/utf8.acceptRanges", "internal/bytealg.MaxLen"], apart := false, laid := [("unicode/utf8.acceptRanges", laid_unicode_utf8_acceptRanges), ("unicode/utf8.first", laid_unicode_utf8_first)], narrowed := true }
def NameCharsUptoSaid : Prop := nameCharsUptoRow.holds Tryd.pinned (OpenSpec.upto nameCharsSpec)

/-- 'wainscotlaw10.NamePaths', WHERE WHAT IT READS IS OF BULK AT MOST 1048576: true; the input reads as it did. -/
def namePathsUptoRow : OpenClaim := { program := "ytbmbjedpeepnfaadoor", sum := "e0a88a9f943e57812bb2950b540b2190fb1f4db56166b0f4e28a08b4775afd75", func := "wainscot/wainscotlaw10.NamePaths", spec := "namePaths", inPlace := ["internal/bytealg.CountString", "internal/bytealg.IndexByteString", "internal/bytealg.IndexString"], unfollowed := true, recurses := true, named := ["unicode/utf8.first", "unicode/utf8.acceptRanges", "internal/bytealg.MaxLen"], apart := false, laid := [("unicode/utf8.acceptRanges", laid_unicode_utf8_acceptRanges), ("unicode/utf8.first", laid_unicode_utf8_first)], narrowed := true }
def NamePathsUptoSaid : Prop := namePathsUptoRow.holds Tryd.pinned (OpenSpec.upto namePathsSpec)

/-- 'wainscotlaw10.NameWidths', WHERE WHAT IT READS IS OF BULK AT MOST 1048576: true; the input reads as it did. -/
def nameWidthsUptoRow : OpenClaim := { program := "ytbmbjedpeepnfaadoor", sum := "e0a88a9f943e57812bb2950b540b2190fb1f4db56166b0f4e28a08b4775afd75", func := "wainscot/wainscotlaw10.NameWidths", spec := "nameWidths", inPlace := ["internal/bytealg.CountString", "internal/bytealg.IndexByteString", "internal/bytealg.IndexString"], unfollowed := true, recurses := true, named := ["unicode/utf8.first", "unicode/utf8.acceptRanges", "internal/bytealg.MaxLen"], apart := false, laid := [("unicode/utf8.acceptRanges", laid_unicode_utf8_acceptRanges), ("unicode/utf8.first", laid_unicode_utf8_first)], narrowed := true }
def NameWidthsUptoSaid : Prop := nameWidthsUptoRow.holds Tryd.pinned (OpenSpec.upto nameWidthsSpec)

/-- 'wainscotlaw10.NameTells', WHERE WHAT IT READS IS OF BULK AT MOST 1048576: true; the input reads as it did. -/
def nameTellsUptoRow : OpenClaim := { program := "ytbmbjedpeepnfaadoor", sum := "e0a88a9f943e57812bb2950b540b2190fb1f4db56166b0f4e28a08b4775afd75", func := "wainscot/wainscotlaw10.NameTells", spec := "nameTells", inPlace := ["internal/bytealg.CountString", "internal/bytealg.IndexByteString", "internal/bytealg.IndexString", "internal/abi.NoEscape", "internal/bytealg.MakeNoZero"], unfollowed := true, recurses := true, named := ["unicode/utf8.first", "unicode/utf8.acceptRanges", "internal/bytealg.MaxLen"], apart := false, laid := [("unicode/utf8.acceptRanges", laid_unicode_utf8_acceptRanges), ("unicode/utf8.first", laid_unicode_utf8_first)], narrowed := true }
def NameTellsUptoSaid : Prop := nameTellsUptoRow.holds Tryd.pinned (OpenSpec.upto nameTellsSpec)

/-- 'wainscotlaw10.NameBack', WHERE WHAT IT READS IS OF BULK AT MOST 1048576: true; the input reads as it did. -/
def nameBackUptoRow : OpenClaim := { program := "ytbmbjedpeepnfaadoor", sum := "e0a88a9f943e57812bb2950b540b2190fb1f4db56166b0f4e28a08b4775afd75", func := "wainscot/wainscotlaw10.NameBack", spec := "nameBack", inPlace := ["internal/bytealg.CountString", "internal/bytealg.IndexByteString", "internal/bytealg.IndexString", "internal/abi.NoEscape", "internal/bytealg.MakeNoZero"], unfollowed := true, recurses := true, named := ["unicode/utf8.first", "unicode/utf8.acceptRanges", "internal/bytealg.MaxLen"], apart := false, laid := [("unicode/utf8.acceptRanges", laid_unicode_utf8_acceptRanges), ("unicode/utf8.first", laid_unicode_utf8_first)], narrowed := true }
def NameBackUptoSaid : Prop := nameBackUptoRow.holds Tryd.pinned (OpenSpec.upto nameBackSpec)

/-- 'wainscotlaw10.NameBelow', WHERE WHAT IT READS IS OF BULK AT MOST 1048576: true; the input reads as it did. -/
def nameBelowUptoRow : OpenClaim := { program := "ytbmbjedpeepnfaadoor", sum := "e0a88a9f943e57812bb2950b540b2190fb1f4db56166b0f4e28a08b4775afd75", func := "wainscot/wainscotlaw10.NameBelow", spec := "nameBelow", inPlace := ["internal/bytealg.CountString", "internal/bytealg.IndexByteString", "internal/bytealg.IndexString", "internal/abi.NoEscape", "internal/bytealg.MakeNoZero"], unfollowed := true, recurses := true, named := ["unicode/utf8.first", "unicode/utf8.acceptRanges", "internal/bytealg.MaxLen"], apart := false, laid := [("unicode/utf8.acceptRanges", laid_unicode_utf8_acceptRanges), ("unicode/utf8.first", laid_unicode_utf8_first)], narrowed := true }
def NameBelowUptoSaid : Prop := nameBelowUptoRow.holds Tryd.pinned (OpenSpec.upto nameBelowSpec)

/-- 'wainscotlaw15.ModelFiles', WHERE WHAT IT READS IS OF BULK AT MOST 1048576: true; the input reads as it did. -/
def modelFilesUptoRow : OpenClaim := { program := "ytbmbjedpeepnfaadoor", sum := "e0a88a9f943e57812bb2950b540b2190fb1f4db56166b0f4e28a08b4775afd75", func := "wainscot/wainscotlaw15.ModelFiles", spec := "modelFiles", inPlace := ["internal/bytealg.CountString", "internal/bytealg.IndexByteString", "internal/bytealg.IndexString"], unfollowed := true, recurses := true, named := ["unicode/utf8.first", "unicode/utf8.acceptRanges", "internal/bytealg.MaxLen"], apart := false, laid := [("unicode/utf8.acceptRanges", laid_unicode_utf8_acceptRanges), ("unicode/utf8.first", laid_unicode_utf8_first)], narrowed := true }
def ModelFilesUptoSaid : Prop := modelFilesUptoRow.holds Tryd.pinned (OpenSpec.upto modelFilesSpec)

/-- 'wainscotlaw15.ModelRenames', WHERE WHAT IT READS IS OF BULK AT MOST 1048576: true; the input reads as it did. -/
def modelRenamesUptoRow : OpenClaim := { program := "ytbmbjedpeepnfaadoor", sum := "e0a88a9f943e57812bb2950b540b2190fb1f4db56166b0f4e28a08b4775afd75", func := "wainscot/wainscotlaw15.ModelRenames", spec := "modelRenames", inPlace := ["internal/bytealg.CountString", "internal/bytealg.IndexByteString", "internal/bytealg.IndexString"], unfollowed := true, recurses := true, named := ["unicode/utf8.first", "unicode/utf8.acceptRanges", "internal/bytealg.MaxLen"], apart := false, laid := [("unicode/utf8.acceptRanges", laid_unicode_utf8_acceptRanges), ("unicode/utf8.first", laid_unicode_utf8_first)], narrowed := true }
def ModelRenamesUptoSaid : Prop := modelRenamesUptoRow.holds Tryd.pinned (OpenSpec.upto modelRenamesSpec)

/-- 'wainscotlaw15.ModelLinks', WHERE WHAT IT READS IS OF BULK AT MOST 1048576: true; the input reads as it did. -/
def modelLinksUptoRow : OpenClaim := { program := "ytbmbjedpeepnfaadoor", sum := "e0a88a9f943e57812bb2950b540b2190fb1f4db56166b0f4e28a08b4775afd75", func := "wainscot/wainscotlaw15.ModelLinks", spec := "modelLinks", inPlace := ["internal/bytealg.CountString", "internal/bytealg.IndexByteString", "internal/bytealg.IndexString"], unfollowed := true, recurses := true, named := ["unicode/utf8.first", "unicode/utf8.acceptRanges", "internal/bytealg.MaxLen"], apart := false, laid := [("unicode/utf8.acceptRanges", laid_unicode_utf8_acceptRanges), ("unicode/utf8.first", laid_unicode_utf8_first)], narrowed := true }
def ModelLinksUptoSaid : Prop := modelLinksUptoRow.holds Tryd.pinned (OpenSpec.upto modelLinksSpec)

/-- 'wainscotlaw15.ModelEmpties', WHERE WHAT IT READS IS OF BULK AT MOST 1048576: true; the input reads as it did. -/
def modelEmptiesUptoRow : OpenClaim := { program := "ytbmbjedpeepnfaadoor", sum := "e0a88a9f943e57812bb2950b540b2190fb1f4db56166b0f4e28a08b4775afd75", func := "wainscot/wainscotlaw15.ModelEmpties", spec := "modelEmpties", inPlace := ["internal/bytealg.CountString", "internal/bytealg.IndexByteString", "internal/bytealg.IndexString"], unfollowed := true, recurses := true, named := ["unicode/utf8.first", "unicode/utf8.acceptRanges", "internal/bytealg.MaxLen"], apart := false, laid := [("unicode/utf8.acceptRanges", laid_unicode_utf8_acceptRanges), ("unicode/utf8.first", laid_unicode_utf8_first)], narrowed := true }
def ModelEmptiesUptoSaid : Prop := modelEmptiesUptoRow.holds Tryd.pinned (OpenSpec.upto modelEmptiesSpec)

/-- 'wainscotlaw15.ModelErrors', WHERE WHAT IT READS IS OF BULK AT MOST 1048576: true; the input reads as it did. -/
def modelErrorsUptoRow : OpenClaim := { program := "ytbmbjedpeepnfaadoor", sum := "e0a88a9f943e57812bb2950b540b2190fb1f4db56166b0f4e28a08b4775afd75", func := "wainscot/wainscotlaw15.ModelErrors", spec := "modelErrors", inPlace := ["internal/bytealg.CountString", "internal/bytealg.IndexByteString", "internal/bytealg.IndexString"], unfollowed := true, recurses := true, named := ["unicode/utf8.first", "unicode/utf8.acceptRanges", "internal/bytealg.MaxLen"], apart := false, laid := [("unicode/utf8.acceptRanges", laid_unicode_utf8_acceptRanges), ("unicode/utf8.first", laid_unicode_utf8_first)], narrowed := true }
def ModelErrorsUptoSaid : Prop := modelErrorsUptoRow.holds Tryd.pinned (OpenSpec.upto modelErrorsSpec)

end Rows
end Go.Proofs.YtbmbjedpeepnfaaDoor
