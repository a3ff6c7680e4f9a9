/-
  NARROWER THAN 'FOR EVERY INPUT', by the rows' own cells (each row's printed sentence says how): InodeChunks: laid · InodeBounds: laid · InodeTells: laid · InodeBack: laid · InodeUnlike: laid.
  DERIVED. THE GIVEN ROWS OF THIS SEAT. 5 by the template 'for every input the law returns true; each argument reads behind the call as it read before'; 0 by the template 'total and deterministic' (their statements: YteogkgjajhdhjaaDoorTotals.lean).
  GIVEN WITH THE SEED: the statements are not yours to turn. If you find one false, say at which input.
  Laid BY PROGRAM, IN A SANDBOX (cutbox-rows.mjs): the forced cells as the released guide's own fill.sh prints them over the translation 6273baab8d6f3f5e… (all of the seat's roots in one cut). By AI agents, Wed Nov 11 2026. No macro, syntax, notation, axiom, sorry.
-/
import Derived.Test.YteogkgjajhdhjaaDoorChecked
import GoSem.PinnedTables
import GoSem.Claim
import GoSem.ClaimJoined
import GoSem.ClaimMapViews
import Derived.JoinedTies
import Derived.KernelRfl
namespace Go.Proofs.YteogkgjajhdhjaaDoor
/- THE CELL 'sum', in the pinned program and in every row, IS THE sha256 OF THE DUMP (.gsa) THAT YteogkgjajhdhjaaDoorProg.lean LOADS. Nothing in Lean hashes anything: it is a label: what it is worth is what the hold of that sum in a sandbox is worth. -/
noncomputable def Tryd.pinned : Pinned := { name := "yteogkgjajhdhjaadoor", sum := "6273baab8d6f3f5eab56a214792ffbff92633019f78a31e6233946d7a5d4ce9d", checked := Tryd.checked }
namespace Rows
def none {H : Type} : Left H := { results := [], args := [] }

/- WHAT THE LISTED PACKAGE-LEVEL VARIABLES READ AS WHEN THE CALL BEGINS. Each datum BY PROGRAM (the guide's laid-datum.mjs) off the statement by which the dump's own 'gosem.cut.vars' lays the variable. In a bare row this is a premise. The card (YteogkgjajhdhjaaDoorCards.lean) ties it to the program's text. -/
def laid_unicode_utf8_acceptRanges {H : Type} : DataW H := .agg [.agg [.lit (.int .u8 128), .lit (.int .u8 191)], .agg [.lit (.int .u8 160), .lit (.int .u8 191)], .agg [.lit (.int .u8 128), .lit (.int .u8 159)], .agg [.lit (.int .u8 144), .lit (.int .u8 191)], .agg [.lit (.int .u8 128), .lit (.int .u8 143)], .agg [.lit (.int .u8 0), .lit (.int .u8 0)], .agg [.lit (.int .u8 0), .lit (.int .u8 0)], .agg [.lit (.int .u8 0), .lit (.int .u8 0)], .agg [.lit (.int .u8 0), .lit (.int .u8 0)], .agg [.lit (.int .u8 0), .lit (.int .u8 0)], .agg [.lit (.int .u8 0), .lit (.int .u8 0)], .agg [.lit (.int .u8 0), .lit (.int .u8 0)], .agg [.lit (.int .u8 0), .lit (.int .u8 0)], .agg [.lit (.int .u8 0), .lit (.int .u8 0)], .agg [.lit (.int .u8 0), .lit (.int .u8 0)], .agg [.lit (.int .u8 0), .lit (.int .u8 0)]]
/-- One of Go's own tables, pinned by name: the form's constant. -/
def laid_unicode_utf8_first : DataW Unit := Go.Pinned.utf8First

/-- 'wainscotlaw11.InodeChunks': WHATEVER THE INPUT: true; the input reads as it did. -/
def inodeChunksSpec : ChangeSpec := { name := "inodeChunks", fn := fun _ => fun
  | [d] => { results := [.lit (.bool true)], args := [d] }
  | _ => none }
def inodeChunksRow : OpenClaim := { program := "yteogkgjajhdhjaadoor", sum := "6273baab8d6f3f5eab56a214792ffbff92633019f78a31e6233946d7a5d4ce9d", func := "wainscot/wainscotlaw11.InodeChunks", spec := "inodeChunks", inPlace := ["internal/bytealg.IndexByteString", "internal/bytealg.IndexString", "internal/abi.NoEscape", "internal/bytealg.MakeNoZero"], named := ["unicode/utf8.first", "unicode/utf8.acceptRanges", "internal/bytealg.MaxLen"], apart := false, laid := [("unicode/utf8.acceptRanges", laid_unicode_utf8_acceptRanges), ("unicode/utf8.first", laid_unicode_utf8_first)] }
def InodeChunksSaid : Prop := inodeChunksRow.holds Tryd.pinned (OpenSpec.ofChange inodeChunksSpec)

/-- ITS FALSE NEIGHBOUR: 'it returns false'. Refute it at one input. -/
def inodeChunksWrong : ChangeSpec := { name := "inodeChunks", fn := fun _ => fun
  | [d] => { results := [.lit (.bool false)], args := [d] }
  | _ => none }
def InodeChunksWrongFalsely : Prop := inodeChunksRow.holds Tryd.pinned (OpenSpec.ofChange inodeChunksWrong)

/-- 'wainscotlaw11.InodeBounds': WHATEVER THE INPUT: true; the input reads as it did. -/
def inodeBoundsSpec : ChangeSpec := { name := "inodeBounds", fn := fun _ => fun
  | [d1, d2] => { results := [.lit (.bool true)], args := [d1, d2] }
  | _ => none }
def inodeBoundsRow : OpenClaim := { program := "yteogkgjajhdhjaadoor", sum := "6273baab8d6f3f5eab56a214792ffbff92633019f78a31e6233946d7a5d4ce9d", func := "wainscot/wainscotlaw11.InodeBounds", spec := "inodeBounds", inPlace := ["internal/bytealg.IndexByteString", "internal/bytealg.IndexString", "internal/abi.NoEscape", "internal/bytealg.MakeNoZero"], named := ["unicode/utf8.first", "unicode/utf8.acceptRanges", "internal/bytealg.MaxLen"], apart := false, laid := [("unicode/utf8.acceptRanges", laid_unicode_utf8_acceptRanges), ("unicode/utf8.first", laid_unicode_utf8_first)] }
def InodeBoundsSaid : Prop := inodeBoundsRow.holds Tryd.pinned (OpenSpec.ofChange inodeBoundsSpec)

/-- ITS FALSE NEIGHBOUR: 'it returns false'. Refute it at one input. -/
def inodeBoundsWrong : ChangeSpec := { name := "inodeBounds", fn := fun _ => fun
  | [d1, d2] => { results := [.lit (.bool false)], args := [d1, d2] }
  | _ => none }
def InodeBoundsWrongFalsely : Prop := inodeBoundsRow.holds Tryd.pinned (OpenSpec.ofChange inodeBoundsWrong)

/-- 'wainscotlaw11.InodeTells': WHATEVER THE INPUT: true; the input reads as it did. -/
def inodeTellsSpec : ChangeSpec := { name := "inodeTells", fn := fun _ => fun
  | [d1, d2, d3] => { results := [.lit (.bool true)], args := [d1, d2, d3] }
  | _ => none }
def inodeTellsRow : OpenClaim := { program := "yteogkgjajhdhjaadoor", sum := "6273baab8d6f3f5eab56a214792ffbff92633019f78a31e6233946d7a5d4ce9d", func := "wainscot/wainscotlaw11.InodeTells", spec := "inodeTells", inPlace := ["internal/bytealg.IndexByteString", "internal/bytealg.IndexString", "internal/abi.NoEscape", "internal/bytealg.MakeNoZero"], named := ["unicode/utf8.first", "unicode/utf8.acceptRanges", "internal/bytealg.MaxLen"], apart := false, laid := [("unicode/utf8.acceptRanges", laid_unicode_utf8_acceptRanges), ("unicode/utf8.first", laid_unicode_utf8_first)] }
def InodeTellsSaid : Prop := inodeTellsRow.holds Tryd.pinned (OpenSpec.ofChange inodeTellsSpec)

/-- ITS FALSE NEIGHBOUR: 'it returns false'. Refute it at one input. -/
def inodeTellsWrong : ChangeSpec := { name := "inodeTells", fn := fun _ => fun
  | [d1, d2, d3] => { results := [.lit (.bool false)], args := [d1, d2, d3] }
  | _ => none }
def InodeTellsWrongFalsely : Prop := inodeTellsRow.holds Tryd.pinned (OpenSpec.ofChange inodeTellsWrong)

/-- 'wainscotlaw11.InodeBack': WHATEVER THE INPUT: true; the input reads as it did. -/
def inodeBackSpec : ChangeSpec := { name := "inodeBack", fn := fun _ => fun
  | [d1, d2, d3] => { results := [.lit (.bool true)], args := [d1, d2, d3] }
  | _ => none }
def inodeBackRow : OpenClaim := { program := "yteogkgjajhdhjaadoor", sum := "6273baab8d6f3f5eab56a214792ffbff92633019f78a31e6233946d7a5d4ce9d", func := "wainscot/wainscotlaw11.InodeBack", spec := "inodeBack", inPlace := ["internal/bytealg.IndexByteString", "internal/bytealg.IndexString", "internal/abi.NoEscape", "internal/bytealg.MakeNoZero"], named := ["unicode/utf8.first", "unicode/utf8.acceptRanges", "internal/bytealg.MaxLen"], apart := false, laid := [("unicode/utf8.acceptRanges", laid_unicode_utf8_acceptRanges), ("unicode/utf8.first", laid_unicode_utf8_first)] }
def InodeBackSaid : Prop := inodeBackRow.holds Tryd.pinned (OpenSpec.ofChange inodeBackSpec)

/-- ITS FALSE NEIGHBOUR: 'it returns false'. Refute it at one input. -/
def inodeBackWrong : ChangeSpec := { name := "inodeBack", fn := fun _ => fun
  | [d1, d2, d3] => { results := [.lit (.bool false)], args := [d1, d2, d3] }
  | _ => none }
def InodeBackWrongFalsely : Prop := inodeBackRow.holds Tryd.pinned (OpenSpec.ofChange inodeBackWrong)

/-- 'wainscotlaw11.InodeUnlike': WHATEVER THE INPUT: true; the input reads as it did. -/
def inodeUnlikeSpec : ChangeSpec := { name := "inodeUnlike", fn := fun _ => fun
  | [d1, d2, d3, d4] => { results := [.lit (.bool true)], args := [d1, d2, d3, d4] }
  | _ => none }
def inodeUnlikeRow : OpenClaim := { program := "yteogkgjajhdhjaadoor", sum := "6273baab8d6f3f5eab56a214792ffbff92633019f78a31e6233946d7a5d4ce9d", func := "wainscot/wainscotlaw11.InodeUnlike", spec := "inodeUnlike", inPlace := ["internal/bytealg.IndexByteString", "internal/bytealg.IndexString", "internal/abi.NoEscape", "internal/bytealg.MakeNoZero"], named := ["unicode/utf8.first", "unicode/utf8.acceptRanges", "internal/bytealg.MaxLen"], apart := false, laid := [("unicode/utf8.acceptRanges", laid_unicode_utf8_acceptRanges), ("unicode/utf8.first", laid_unicode_utf8_first)] }
def InodeUnlikeSaid : Prop := inodeUnlikeRow.holds Tryd.pinned (OpenSpec.ofChange inodeUnlikeSpec)

/-- ITS FALSE NEIGHBOUR: 'it returns false'. Refute it at one input. -/
def inodeUnlikeWrong : ChangeSpec := { name := "inodeUnlike", fn := fun _ => fun
  | [d1, d2, d3, d4] => { results := [.lit (.bool false)], args := [d1, d2, d3, d4] }
  | _ => none }
def InodeUnlikeWrongFalsely : Prop := inodeUnlikeRow.holds Tryd.pinned (OpenSpec.ofChange inodeUnlikeWrong)

/- THE SECOND FORM. 'bulk': how many values and letters a reading holds, each counted each time it is reached (what is shared counts as often as it is met; a slice's spare places count too). A statement '..UptoSaid' is the law's where the arguments, and the package variables that the reading takes, are together of bulk at most 1048576: NARROWER than '..Said'. Prove '..Said' where nothing that the law and all that it calls make is longer than what came in: it says more and counts as full. Else prove '..UptoSaid'. A law counts once. -/
mutual
def uptoBulk {H : Type} : DataW H → Nat
  | .lit (.string bytes) => bytes.length + 1
  | .lit _ => 1
  | .nil => 1
  | .ptr d => uptoBulk d + 1
  | .slice elems spare => uptoBulkAll elems + uptoBulkAll spare + 1
  | .agg parts => uptoBulkAll parts + 1
  | .iface _ d => uptoBulk d + 1
  | .map entries => uptoBulkEntries entries + 1
  | .held _ => 1
def uptoBulkAll {H : Type} : List (DataW H) → Nat
  | [] => 0
  | d :: r => uptoBulk d + uptoBulkAll r
def uptoBulkEntries {H : Type} : List (Lit × DataW H) → Nat
  | [] => 0
  | x :: r => uptoBulkEntry x + uptoBulkEntries r
def uptoBulkEntry {H : Type} : Lit × DataW H → Nat
  | (.string bytes, d) => bytes.length + uptoBulk d + 1
  | (_, d) => uptoBulk d + 1
 end
def uptoSmall : (H : Type) → List (DataW H) → Bool := fun _ ds => decide (uptoBulkAll ds ≤ 1048576)
def OpenSpec.upto (s : _root_.Go.ChangeSpec) : _root_.Go.OpenSpec := { _root_.Go.OpenSpec.ofChange s with cond := some uptoSmall }

/-- 'wainscotlaw11.InodeChunks', WHERE WHAT IT READS IS OF BULK AT MOST 1048576: true; the input reads as it did. -/
def inodeChunksUptoRow : OpenClaim := { program := "yteogkgjajhdhjaadoor", sum := "6273baab8d6f3f5eab56a214792ffbff92633019f78a31e6233946d7a5d4ce9d", func := "wainscot/wainscotlaw11.InodeChunks", spec := "inodeChunks", inPlace := ["internal/bytealg.IndexByteString", "internal/bytealg.IndexString", "internal/abi.NoEscape", "internal/bytealg.MakeNoZero"], named := ["unicode/utf8.first", "unicode/utf8.acceptRanges", "internal/bytealg.MaxLen"], apart := false, laid := [("unicode/utf8.acceptRanges", laid_unicode_utf8_acceptRanges), ("unicode/utf8.first", laid_unicode_utf8_first)], narrowed := true }
def InodeChunksUptoSaid : Prop := inodeChunksUptoRow.holds Tryd.pinned (OpenSpec.upto inodeChunksSpec)

/-- 'wainscotlaw11.InodeBounds', WHERE WHAT IT READS IS OF BULK AT MOST 1048576: true; the input reads as it did. -/
def inodeBoundsUptoRow : OpenClaim := { program := "yteogkgjajhdhjaadoor", sum := "6273baab8d6f3f5eab56a214792ffbff92633019f78a31e6233946d7a5d4ce9d", func := "wainscot/wainscotlaw11.InodeBounds", spec := "inodeBounds", inPlace := ["internal/bytealg.IndexByteString", "internal/bytealg.IndexString", "internal/abi.NoEscape", "internal/bytealg.MakeNoZero"], named := ["unicode/utf8.first", "unicode/utf8.acceptRanges", "internal/bytealg.MaxLen"], apart := false, laid := [("unicode/utf8.acceptRanges", laid_unicode_utf8_acceptRanges), ("unicode/utf8.first", laid_unicode_utf8_first)], narrowed := true }
def InodeBoundsUptoSaid : Prop := inodeBoundsUptoRow.holds Tryd.pinned (OpenSpec.upto inodeBoundsSpec)

/-- 'wainscotlaw11.InodeTells', WHERE WHAT IT READS IS OF BULK AT MOST 1048576: true; the input reads as it did. -/
def inodeTellsUptoRow : OpenClaim := { program := "yteogkgjajhdhjaadoor", sum := "6273baab8d6f3f5eab56a214792ffbff92633019f78a31e6233946d7a5d4ce9d", func := "wainscot/wainscotlaw11.InodeTells", spec := "inodeTells", inPlace := ["internal/bytealg.IndexByteString", "internal/bytealg.IndexString", "internal/abi.NoEscape", "internal/bytealg.MakeNoZero"], named := ["unicode/utf8.first", "unicode/utf8.acceptRanges", "internal/bytealg.MaxLen"], apart := false, laid := [("unicode/utf8.acceptRanges", laid_unicode_utf8_acceptRanges), ("unicode/utf8.first", laid_unicode_utf8_first)], narrowed := true }
def InodeTellsUptoSaid : Prop := inodeTellsUptoRow.holds Tryd.pinned (OpenSpec.upto inodeTellsSpec)

/-- 'wainscotlaw11.InodeBack', WHERE WHAT IT READS IS OF BULK AT MOST 1048576: true; the input reads as it did. -/
def inodeBackUptoRow : OpenClaim := { program := "yteogkgjajhdhjaadoor", sum := "6273baab8d6f3f5eab56a214792ffbff92633019f78a31e6233946d7a5d4ce9d", func := "wainscot/wainscotlaw11.InodeBack", spec := "inodeBack", inPlace := ["internal/bytealg.IndexByteString", "internal/bytealg.IndexString", "internal/abi.NoEscape", "internal/bytealg.MakeNoZero"], named := ["unicode/utf8.first", "unicode/utf8.acceptRanges", "internal/bytealg.MaxLen"], apart := false, laid := [("unicode/utf8.acceptRanges", laid_unicode_utf8_acceptRanges), ("unicode/utf8.first", laid_unicode_utf8_first)], narrowed := true }
def InodeBackUptoSaid : Prop := inodeBackUptoRow.holds Tryd.pinned (OpenSpec.upto inodeBackSpec)

/-- 'wainscotlaw11.InodeUnlike', WHERE WHAT IT READS IS OF BULK AT MOST 1048576: true; the input reads as it did. -/
def inodeUnlikeUptoRow : OpenClaim := { program := "yteogkgjajhdhjaadoor", sum := "6273baab8d6f3f5eab56a214792ffbff92633019f78a31e6233946d7a5d4ce9d", func := "wainscot/wainscotlaw11.InodeUnlike", spec := "inodeUnlike", inPlace := ["internal/bytealg.IndexByteString", "internal/bytealg.IndexString", "internal/abi.NoEscape", "internal/bytealg.MakeNoZero"], named := ["unicode/utf8.first", "unicode/utf8.acceptRanges", "internal/bytealg.MaxLen"], apart := false, laid := [("unicode/utf8.acceptRanges", laid_unicode_utf8_acceptRanges), ("unicode/utf8.first", laid_unicode_utf8_first)], narrowed := true }
def InodeUnlikeUptoSaid : Prop := inodeUnlikeUptoRow.holds Tryd.pinned (OpenSpec.upto inodeUnlikeSpec)

end Rows
end Go.Proofs.YteogkgjajhdhjaaDoor
