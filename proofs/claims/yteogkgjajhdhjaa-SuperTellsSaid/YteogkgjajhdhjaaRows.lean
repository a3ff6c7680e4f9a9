/-
  No cell of these rows narrows 'for every input' (looked for: loops, veiled, ifaces, maps, wideKeys, modest, calm, conditions, laid).
  DERIVED. THE GIVEN ROWS OF THIS SEAT. 14 by the template 'for every input the law returns true; each argument reads behind the call as it read before'; 0 by the template 'total and deterministic' (their statements: YteogkgjajhdhjaaTotals.lean).
  GIVEN WITH THE SEED: the statements are not yours to turn. If you find one false, say at which input.
  Laid BY PROGRAM, IN A SANDBOX (cutbox-rows.mjs): the forced cells as the released guide's own fill.sh prints them over the translation 5ba56b89e1094897… (all of the seat's roots in one cut). By AI agents, Wed Nov 11 2026. No macro, syntax, notation, axiom, sorry.
-/
import Derived.Test.YteogkgjajhdhjaaChecked
import GoSem.Claim
import GoSem.ClaimJoined
import GoSem.ClaimMapViews
import Derived.JoinedTies
import Derived.KernelRfl
namespace Go.Proofs.Yteogkgjajhdhjaa
/- THE CELL 'sum', in the pinned program and in every row, IS THE sha256 OF THE DUMP (.gsa) THAT YteogkgjajhdhjaaProg.lean LOADS. Nothing in Lean hashes anything: it is a label: what it is worth is what the hold of that sum in a sandbox is worth. -/
noncomputable def Try.pinned : Pinned := { name := "yteogkgjajhdhjaa", sum := "5ba56b89e109489708a298b59ba31beab05458f40102acaddb8b0b9e558e77a6", checked := Try.checked }
namespace Rows
def none {H : Type} : Left H := { results := [], args := [] }

/-- 'wainscotlaw01.PackRoom': WHATEVER THE INPUT: true; the input reads as it did. -/
def packRoomSpec : ChangeSpec := { name := "packRoom", fn := fun _ => fun
  | [d1, d2] => { results := [.lit (.bool true)], args := [d1, d2] }
  | _ => none }
def packRoomRow : OpenClaim := { program := "yteogkgjajhdhjaa", sum := "5ba56b89e109489708a298b59ba31beab05458f40102acaddb8b0b9e558e77a6", func := "wainscot/wainscotlaw01.PackRoom", spec := "packRoom", unfollowed := true, recurses := true, apart := false }
def PackRoomSaid : Prop := packRoomRow.holds Try.pinned (OpenSpec.ofChange packRoomSpec)

/-- ITS FALSE NEIGHBOUR: 'it returns false'. Refute it at one input. -/
def packRoomWrong : ChangeSpec := { name := "packRoom", fn := fun _ => fun
  | [d1, d2] => { results := [.lit (.bool false)], args := [d1, d2] }
  | _ => none }
def PackRoomWrongFalsely : Prop := packRoomRow.holds Try.pinned (OpenSpec.ofChange packRoomWrong)

/-- 'wainscotlaw01.PackCuts': WHATEVER THE INPUT: true; the input reads as it did. -/
def packCutsSpec : ChangeSpec := { name := "packCuts", fn := fun _ => fun
  | [d1, d2] => { results := [.lit (.bool true)], args := [d1, d2] }
  | _ => none }
def packCutsRow : OpenClaim := { program := "yteogkgjajhdhjaa", sum := "5ba56b89e109489708a298b59ba31beab05458f40102acaddb8b0b9e558e77a6", func := "wainscot/wainscotlaw01.PackCuts", spec := "packCuts", unfollowed := true, recurses := true, apart := false }
def PackCutsSaid : Prop := packCutsRow.holds Try.pinned (OpenSpec.ofChange packCutsSpec)

/-- ITS FALSE NEIGHBOUR: 'it returns false'. Refute it at one input. -/
def packCutsWrong : ChangeSpec := { name := "packCuts", fn := fun _ => fun
  | [d1, d2] => { results := [.lit (.bool false)], args := [d1, d2] }
  | _ => none }
def PackCutsWrongFalsely : Prop := packCutsRow.holds Try.pinned (OpenSpec.ofChange packCutsWrong)

/-- 'wainscotlaw01.PackOrder': WHATEVER THE INPUT: true; the input reads as it did. -/
def packOrderSpec : ChangeSpec := { name := "packOrder", fn := fun _ => fun
  | [d1, d2] => { results := [.lit (.bool true)], args := [d1, d2] }
  | _ => none }
def packOrderRow : OpenClaim := { program := "yteogkgjajhdhjaa", sum := "5ba56b89e109489708a298b59ba31beab05458f40102acaddb8b0b9e558e77a6", func := "wainscot/wainscotlaw01.PackOrder", spec := "packOrder", unfollowed := true, recurses := true, apart := false }
def PackOrderSaid : Prop := packOrderRow.holds Try.pinned (OpenSpec.ofChange packOrderSpec)

/-- ITS FALSE NEIGHBOUR: 'it returns false'. Refute it at one input. -/
def packOrderWrong : ChangeSpec := { name := "packOrder", fn := fun _ => fun
  | [d1, d2] => { results := [.lit (.bool false)], args := [d1, d2] }
  | _ => none }
def PackOrderWrongFalsely : Prop := packOrderRow.holds Try.pinned (OpenSpec.ofChange packOrderWrong)

/-- 'wainscotlaw01.PackReads': WHATEVER THE INPUT: true; the input reads as it did. -/
def packReadsSpec : ChangeSpec := { name := "packReads", fn := fun _ => fun
  | [d1, d2] => { results := [.lit (.bool true)], args := [d1, d2] }
  | _ => none }
def packReadsRow : OpenClaim := { program := "yteogkgjajhdhjaa", sum := "5ba56b89e109489708a298b59ba31beab05458f40102acaddb8b0b9e558e77a6", func := "wainscot/wainscotlaw01.PackReads", spec := "packReads", unfollowed := true, recurses := true, apart := false }
def PackReadsSaid : Prop := packReadsRow.holds Try.pinned (OpenSpec.ofChange packReadsSpec)

/-- ITS FALSE NEIGHBOUR: 'it returns false'. Refute it at one input. -/
def packReadsWrong : ChangeSpec := { name := "packReads", fn := fun _ => fun
  | [d1, d2] => { results := [.lit (.bool false)], args := [d1, d2] }
  | _ => none }
def PackReadsWrongFalsely : Prop := packReadsRow.holds Try.pinned (OpenSpec.ofChange packReadsWrong)

/-- 'wainscotlaw01.PackBack': WHATEVER THE INPUT: true; the input reads as it did. -/
def packBackSpec : ChangeSpec := { name := "packBack", fn := fun _ => fun
  | [d] => { results := [.lit (.bool true)], args := [d] }
  | _ => none }
def packBackRow : OpenClaim := { program := "yteogkgjajhdhjaa", sum := "5ba56b89e109489708a298b59ba31beab05458f40102acaddb8b0b9e558e77a6", func := "wainscot/wainscotlaw01.PackBack", spec := "packBack", unfollowed := true, recurses := true, apart := false }
def PackBackSaid : Prop := packBackRow.holds Try.pinned (OpenSpec.ofChange packBackSpec)

/-- ITS FALSE NEIGHBOUR: 'it returns false'. Refute it at one input. -/
def packBackWrong : ChangeSpec := { name := "packBack", fn := fun _ => fun
  | [d] => { results := [.lit (.bool false)], args := [d] }
  | _ => none }
def PackBackWrongFalsely : Prop := packBackRow.holds Try.pinned (OpenSpec.ofChange packBackWrong)

/-- 'wainscotlaw01.PackWrites': WHATEVER THE INPUT: true; the input reads as it did. -/
def packWritesSpec : ChangeSpec := { name := "packWrites", fn := fun _ => fun
  | [d1, d2] => { results := [.lit (.bool true)], args := [d1, d2] }
  | _ => none }
def packWritesRow : OpenClaim := { program := "yteogkgjajhdhjaa", sum := "5ba56b89e109489708a298b59ba31beab05458f40102acaddb8b0b9e558e77a6", func := "wainscot/wainscotlaw01.PackWrites", spec := "packWrites", unfollowed := true, recurses := true, apart := false }
def PackWritesSaid : Prop := packWritesRow.holds Try.pinned (OpenSpec.ofChange packWritesSpec)

/-- ITS FALSE NEIGHBOUR: 'it returns false'. Refute it at one input. -/
def packWritesWrong : ChangeSpec := { name := "packWrites", fn := fun _ => fun
  | [d1, d2] => { results := [.lit (.bool false)], args := [d1, d2] }
  | _ => none }
def PackWritesWrongFalsely : Prop := packWritesRow.holds Try.pinned (OpenSpec.ofChange packWritesWrong)

/-- 'wainscotlaw01.PackWrong': WHATEVER THE INPUT: true; the input reads as it did. -/
def packWrongSpec : ChangeSpec := { name := "packWrong", fn := fun _ => fun
  | [d1, d2, d3, d4] => { results := [.lit (.bool true)], args := [d1, d2, d3, d4] }
  | _ => none }
def packWrongRow : OpenClaim := { program := "yteogkgjajhdhjaa", sum := "5ba56b89e109489708a298b59ba31beab05458f40102acaddb8b0b9e558e77a6", func := "wainscot/wainscotlaw01.PackWrong", spec := "packWrong", unfollowed := true, recurses := true, apart := false }
def PackWrongSaid : Prop := packWrongRow.holds Try.pinned (OpenSpec.ofChange packWrongSpec)

/-- ITS FALSE NEIGHBOUR: 'it returns false'. Refute it at one input. -/
def packWrongWrong : ChangeSpec := { name := "packWrong", fn := fun _ => fun
  | [d1, d2, d3, d4] => { results := [.lit (.bool false)], args := [d1, d2, d3, d4] }
  | _ => none }
def PackWrongWrongFalsely : Prop := packWrongRow.holds Try.pinned (OpenSpec.ofChange packWrongWrong)

/-- 'wainscotlaw04.SuperTells': WHATEVER THE INPUT: true; the input reads as it did. -/
def superTellsSpec : ChangeSpec := { name := "superTells", fn := fun _ => fun
  | [d1, d2] => { results := [.lit (.bool true)], args := [d1, d2] }
  | _ => none }
def superTellsRow : OpenClaim := { program := "yteogkgjajhdhjaa", sum := "5ba56b89e109489708a298b59ba31beab05458f40102acaddb8b0b9e558e77a6", func := "wainscot/wainscotlaw04.SuperTells", spec := "superTells", unfollowed := true, recurses := true, apart := false }
def SuperTellsSaid : Prop := superTellsRow.holds Try.pinned (OpenSpec.ofChange superTellsSpec)

/-- ITS FALSE NEIGHBOUR: 'it returns false'. Refute it at one input. -/
def superTellsWrong : ChangeSpec := { name := "superTells", fn := fun _ => fun
  | [d1, d2] => { results := [.lit (.bool false)], args := [d1, d2] }
  | _ => none }
def SuperTellsWrongFalsely : Prop := superTellsRow.holds Try.pinned (OpenSpec.ofChange superTellsWrong)

/-- 'wainscotlaw04.SuperChooses': WHATEVER THE INPUT: true; the input reads as it did. -/
def superChoosesSpec : ChangeSpec := { name := "superChooses", fn := fun _ => fun
  | [d1, d2] => { results := [.lit (.bool true)], args := [d1, d2] }
  | _ => none }
def superChoosesRow : OpenClaim := { program := "yteogkgjajhdhjaa", sum := "5ba56b89e109489708a298b59ba31beab05458f40102acaddb8b0b9e558e77a6", func := "wainscot/wainscotlaw04.SuperChooses", spec := "superChooses", unfollowed := true, recurses := true, apart := false }
def SuperChoosesSaid : Prop := superChoosesRow.holds Try.pinned (OpenSpec.ofChange superChoosesSpec)

/-- ITS FALSE NEIGHBOUR: 'it returns false'. Refute it at one input. -/
def superChoosesWrong : ChangeSpec := { name := "superChooses", fn := fun _ => fun
  | [d1, d2] => { results := [.lit (.bool false)], args := [d1, d2] }
  | _ => none }
def SuperChoosesWrongFalsely : Prop := superChoosesRow.holds Try.pinned (OpenSpec.ofChange superChoosesWrong)

/-- 'wainscotlaw04.SuperBack': WHATEVER THE INPUT: true; the input reads as it did. -/
def superBackSpec : ChangeSpec := { name := "superBack", fn := fun _ => fun
  | [d1, d2, d3] => { results := [.lit (.bool true)], args := [d1, d2, d3] }
  | _ => none }
def superBackRow : OpenClaim := { program := "yteogkgjajhdhjaa", sum := "5ba56b89e109489708a298b59ba31beab05458f40102acaddb8b0b9e558e77a6", func := "wainscot/wainscotlaw04.SuperBack", spec := "superBack", unfollowed := true, recurses := true, apart := false }
def SuperBackSaid : Prop := superBackRow.holds Try.pinned (OpenSpec.ofChange superBackSpec)

/-- ITS FALSE NEIGHBOUR: 'it returns false'. Refute it at one input. -/
def superBackWrong : ChangeSpec := { name := "superBack", fn := fun _ => fun
  | [d1, d2, d3] => { results := [.lit (.bool false)], args := [d1, d2, d3] }
  | _ => none }
def SuperBackWrongFalsely : Prop := superBackRow.holds Try.pinned (OpenSpec.ofChange superBackWrong)

/-- 'wainscotlaw04.SuperTorn': WHATEVER THE INPUT: true; the input reads as it did. -/
def superTornSpec : ChangeSpec := { name := "superTorn", fn := fun _ => fun
  | [d1, d2, d3] => { results := [.lit (.bool true)], args := [d1, d2, d3] }
  | _ => none }
def superTornRow : OpenClaim := { program := "yteogkgjajhdhjaa", sum := "5ba56b89e109489708a298b59ba31beab05458f40102acaddb8b0b9e558e77a6", func := "wainscot/wainscotlaw04.SuperTorn", spec := "superTorn", unfollowed := true, recurses := true, apart := false }
def SuperTornSaid : Prop := superTornRow.holds Try.pinned (OpenSpec.ofChange superTornSpec)

/-- ITS FALSE NEIGHBOUR: 'it returns false'. Refute it at one input. -/
def superTornWrong : ChangeSpec := { name := "superTorn", fn := fun _ => fun
  | [d1, d2, d3] => { results := [.lit (.bool false)], args := [d1, d2, d3] }
  | _ => none }
def SuperTornWrongFalsely : Prop := superTornRow.holds Try.pinned (OpenSpec.ofChange superTornWrong)

/-- 'wainscotlaw04.SuperFlips': WHATEVER THE INPUT: true; the input reads as it did. -/
def superFlipsSpec : ChangeSpec := { name := "superFlips", fn := fun _ => fun
  | [d1, d2, d3, d4] => { results := [.lit (.bool true)], args := [d1, d2, d3, d4] }
  | _ => none }
def superFlipsRow : OpenClaim := { program := "yteogkgjajhdhjaa", sum := "5ba56b89e109489708a298b59ba31beab05458f40102acaddb8b0b9e558e77a6", func := "wainscot/wainscotlaw04.SuperFlips", spec := "superFlips", unfollowed := true, recurses := true, apart := false }
def SuperFlipsSaid : Prop := superFlipsRow.holds Try.pinned (OpenSpec.ofChange superFlipsSpec)

/-- ITS FALSE NEIGHBOUR: 'it returns false'. Refute it at one input. -/
def superFlipsWrong : ChangeSpec := { name := "superFlips", fn := fun _ => fun
  | [d1, d2, d3, d4] => { results := [.lit (.bool false)], args := [d1, d2, d3, d4] }
  | _ => none }
def SuperFlipsWrongFalsely : Prop := superFlipsRow.holds Try.pinned (OpenSpec.ofChange superFlipsWrong)

/-- 'wainscotlaw04.SuperNames': WHATEVER THE INPUT: true; the input reads as it did. -/
def superNamesSpec : ChangeSpec := { name := "superNames", fn := fun _ => fun
  | [d] => { results := [.lit (.bool true)], args := [d] }
  | _ => none }
def superNamesRow : OpenClaim := { program := "yteogkgjajhdhjaa", sum := "5ba56b89e109489708a298b59ba31beab05458f40102acaddb8b0b9e558e77a6", func := "wainscot/wainscotlaw04.SuperNames", spec := "superNames", unfollowed := true, recurses := true, apart := false }
def SuperNamesSaid : Prop := superNamesRow.holds Try.pinned (OpenSpec.ofChange superNamesSpec)

/-- ITS FALSE NEIGHBOUR: 'it returns false'. Refute it at one input. -/
def superNamesWrong : ChangeSpec := { name := "superNames", fn := fun _ => fun
  | [d] => { results := [.lit (.bool false)], args := [d] }
  | _ => none }
def SuperNamesWrongFalsely : Prop := superNamesRow.holds Try.pinned (OpenSpec.ofChange superNamesWrong)

/-- 'wainscotlaw04.SuperNewer': WHATEVER THE INPUT: true; the input reads as it did. -/
def superNewerSpec : ChangeSpec := { name := "superNewer", fn := fun _ => fun
  | [d1, d2, d3] => { results := [.lit (.bool true)], args := [d1, d2, d3] }
  | _ => none }
def superNewerRow : OpenClaim := { program := "yteogkgjajhdhjaa", sum := "5ba56b89e109489708a298b59ba31beab05458f40102acaddb8b0b9e558e77a6", func := "wainscot/wainscotlaw04.SuperNewer", spec := "superNewer", unfollowed := true, recurses := true, apart := false }
def SuperNewerSaid : Prop := superNewerRow.holds Try.pinned (OpenSpec.ofChange superNewerSpec)

/-- ITS FALSE NEIGHBOUR: 'it returns false'. Refute it at one input. -/
def superNewerWrong : ChangeSpec := { name := "superNewer", fn := fun _ => fun
  | [d1, d2, d3] => { results := [.lit (.bool false)], args := [d1, d2, d3] }
  | _ => none }
def SuperNewerWrongFalsely : Prop := superNewerRow.holds Try.pinned (OpenSpec.ofChange superNewerWrong)

/- THE SECOND FORM. 'bulk': how many values and letters a reading holds, each counted each time it is reached (what is shared counts as often as it is met; a slice's spare places count too). A statement '..UptoSaid' is the law's where the arguments, and the package variables that the reading takes, are together of bulk at most 1048576: NARROWER than '..Said'. Prove '..Said' where nothing that the law and all that it calls make is longer than what came in: it says more and counts as full. Else prove '..UptoSaid'. A law counts once. -/
mutual
def uptoBulk {H : Type} : DataW H → Nat
  | .lit (.string bytes) => bytes.length + 1
  | .lit _ => 1
  | .nil => 1
  | .ptr d => uptoBulk d + 1
  | .slice elems spare => uptoBulkAll elems + uptoBulkAll spare + 1
  | .agg parts => uptoBulkAll parts + 1
  | .iface _ d => uptoBulk d + 1
  | .map entries => uptoBulkEntries entries + 1
  | .held _ => 1
def uptoBulkAll {H : Type} : List (DataW H) → Nat
  | [] => 0
  | d :: r => uptoBulk d + uptoBulkAll r
def uptoBulkEntries {H : Type} : List (Lit × DataW H) → Nat
  | [] => 0
  | x :: r => uptoBulkEntry x + uptoBulkEntries r
def uptoBulkEntry {H : Type} : Lit × DataW H → Nat
  | (.string bytes, d) => bytes.length + uptoBulk d + 1
  | (_, d) => uptoBulk d + 1
 end
def uptoSmall : (H : Type) → List (DataW H) → Bool := fun _ ds => decide (uptoBulkAll ds ≤ 1048576)
def OpenSpec.upto (s : _root_.Go.ChangeSpec) : _root_.Go.OpenSpec := { _root_.Go.OpenSpec.ofChange s with cond := some uptoSmall }

/-- 'wainscotlaw01.PackRoom', WHERE WHAT IT READS IS OF BULK AT MOST 1048576: true; the input reads as it did. -/
def packRoomUptoRow : OpenClaim := { program := "yteogkgjajhdhjaa", sum := "5ba56b89e109489708a298b59ba31beab05458f40102acaddb8b0b9e558e77a6", func := "wainscot/wainscotlaw01.PackRoom", spec := "packRoom", unfollowed := true, recurses := true, apart := false, narrowed := true }
def PackRoomUptoSaid : Prop := packRoomUptoRow.holds Try.pinned (OpenSpec.upto packRoomSpec)

/-- 'wainscotlaw01.PackCuts', WHERE WHAT IT READS IS OF BULK AT MOST 1048576: true; the input reads as it did. -/
def packCutsUptoRow : OpenClaim := { program := "yteogkgjajhdhjaa", sum := "5ba56b89e109489708a298b59ba31beab05458f40102acaddb8b0b9e558e77a6", func := "wainscot/wainscotlaw01.PackCuts", spec := "packCuts", unfollowed := true, recurses := true, apart := false, narrowed := true }
def PackCutsUptoSaid : Prop := packCutsUptoRow.holds Try.pinned (OpenSpec.upto packCutsSpec)

/-- 'wainscotlaw01.PackOrder', WHERE WHAT IT READS IS OF BULK AT MOST 1048576: true; the input reads as it did. -/
def packOrderUptoRow : OpenClaim := { program := "yteogkgjajhdhjaa", sum := "5ba56b89e109489708a298b59ba31beab05458f40102acaddb8b0b9e558e77a6", func := "wainscot/wainscotlaw01.PackOrder", spec := "packOrder", unfollowed := true, recurses := true, apart := false, narrowed := true }
def PackOrderUptoSaid : Prop := packOrderUptoRow.holds Try.pinned (OpenSpec.upto packOrderSpec)

/-- 'wainscotlaw01.PackReads', WHERE WHAT IT READS IS OF BULK AT MOST 1048576: true; the input reads as it did. -/
def packReadsUptoRow : OpenClaim := { program := "yteogkgjajhdhjaa", sum := "5ba56b89e109489708a298b59ba31beab05458f40102acaddb8b0b9e558e77a6", func := "wainscot/wainscotlaw01.PackReads", spec := "packReads", unfollowed := true, recurses := true, apart := false, narrowed := true }
def PackReadsUptoSaid : Prop := packReadsUptoRow.holds Try.pinned (OpenSpec.upto packReadsSpec)

/-- 'wainscotlaw01.PackBack', WHERE WHAT IT READS IS OF BULK AT MOST 1048576: true; the input reads as it did. -/
def packBackUptoRow : OpenClaim := { program := "yteogkgjajhdhjaa", sum := "5ba56b89e109489708a298b59ba31beab05458f40102acaddb8b0b9e558e77a6", func := "wainscot/wainscotlaw01.PackBack", spec := "packBack", unfollowed := true, recurses := true, apart := false, narrowed := true }
def PackBackUptoSaid : Prop := packBackUptoRow.holds Try.pinned (OpenSpec.upto packBackSpec)

/-- 'wainscotlaw01.PackWrites', WHERE WHAT IT READS IS OF BULK AT MOST 1048576: true; the input reads as it did. -/
def packWritesUptoRow : OpenClaim := { program := "yteogkgjajhdhjaa", sum := "5ba56b89e109489708a298b59ba31beab05458f40102acaddb8b0b9e558e77a6", func := "wainscot/wainscotlaw01.PackWrites", spec := "packWrites", unfollowed := true, recurses := true, apart := false, narrowed := true }
def PackWritesUptoSaid : Prop := packWritesUptoRow.holds Try.pinned (OpenSpec.upto packWritesSpec)

/-- 'wainscotlaw01.PackWrong', WHERE WHAT IT READS IS OF BULK AT MOST 1048576: true; the input reads as it did. -/
def packWrongUptoRow : OpenClaim := { program := "yteogkgjajhdhjaa", sum := "5ba56b89e109489708a298b59ba31beab05458f40102acaddb8b0b9e558e77a6", func := "wainscot/wainscotlaw01.PackWrong", spec := "packWrong", unfollowed := true, recurses := true, apart := false, narrowed := true }
def PackWrongUptoSaid : Prop := packWrongUptoRow.holds Try.pinned (OpenSpec.upto packWrongSpec)

/-- 'wainscotlaw04.SuperTells', WHERE WHAT IT READS IS OF BULK AT MOST 1048576: true; the input reads as it did. -/
def superTellsUptoRow : OpenClaim := { program := "yteogkgjajhdhjaa", sum := "5ba56b89e109489708a298b59ba31beab05458f40102acaddb8b0b9e558e77a6", func := "wainscot/wainscotlaw04.SuperTells", spec := "superTells", unfollowed := true, recurses := true, apart := false, narrowed := true }
def SuperTellsUptoSaid : Prop := superTellsUptoRow.holds Try.pinned (OpenSpec.upto superTellsSpec)

/-- 'wainscotlaw04.SuperChooses', WHERE WHAT IT READS IS OF BULK AT MOST 1048576: true; the input reads as it did. -/
def superChoosesUptoRow : OpenClaim := { program := "yteogkgjajhdhjaa", sum := "5ba56b89e109489708a298b59ba31beab05458f40102acaddb8b0b9e558e77a6", func := "wainscot/wainscotlaw04.SuperChooses", spec := "superChooses", unfollowed := true, recurses := true, apart := false, narrowed := true }
def SuperChoosesUptoSaid : Prop := superChoosesUptoRow.holds Try.pinned (OpenSpec.upto superChoosesSpec)

/-- 'wainscotlaw04.SuperBack', WHERE WHAT IT READS IS OF BULK AT MOST 1048576: true; the input reads as it did. -/
def superBackUptoRow : OpenClaim := { program := "yteogkgjajhdhjaa", sum := "5ba56b89e109489708a298b59ba31beab05458f40102acaddb8b0b9e558e77a6", func := "wainscot/wainscotlaw04.SuperBack", spec := "superBack", unfollowed := true, recurses := true, apart := false, narrowed := true }
def SuperBackUptoSaid : Prop := superBackUptoRow.holds Try.pinned (OpenSpec.upto superBackSpec)

/-- 'wainscotlaw04.SuperTorn', WHERE WHAT IT READS IS OF BULK AT MOST 1048576: true; the input reads as it did. -/
def superTornUptoRow : OpenClaim := { program := "yteogkgjajhdhjaa", sum := "5ba56b89e109489708a298b59ba31beab05458f40102acaddb8b0b9e558e77a6", func := "wainscot/wainscotlaw04.SuperTorn", spec := "superTorn", unfollowed := true, recurses := true, apart := false, narrowed := true }
def SuperTornUptoSaid : Prop := superTornUptoRow.holds Try.pinned (OpenSpec.upto superTornSpec)

/-- 'wainscotlaw04.SuperFlips', WHERE WHAT IT READS IS OF BULK AT MOST 1048576: true; the input reads as it did. -/
def superFlipsUptoRow : OpenClaim := { program := "yteogkgjajhdhjaa", sum := "5ba56b89e109489708a298b59ba31beab05458f40102acaddb8b0b9e558e77a6", func := "wainscot/wainscotlaw04.SuperFlips", spec := "superFlips", unfollowed := true, recurses := true, apart := false, narrowed := true }
def SuperFlipsUptoSaid : Prop := superFlipsUptoRow.holds Try.pinned (OpenSpec.upto superFlipsSpec)

/-- 'wainscotlaw04.SuperNames', WHERE WHAT IT READS IS OF BULK AT MOST 1048576: true; the input reads as it did. -/
def superNamesUptoRow : OpenClaim := { program := "yteogkgjajhdhjaa", sum := "5ba56b89e109489708a298b59ba31beab05458f40102acaddb8b0b9e558e77a6", func := "wainscot/wainscotlaw04.SuperNames", spec := "superNames", unfollowed := true, recurses := true, apart := false, narrowed := true }
def SuperNamesUptoSaid : Prop := superNamesUptoRow.holds Try.pinned (OpenSpec.upto superNamesSpec)

/-- 'wainscotlaw04.SuperNewer', WHERE WHAT IT READS IS OF BULK AT MOST 1048576: true; the input reads as it did. -/
def superNewerUptoRow : OpenClaim := { program := "yteogkgjajhdhjaa", sum := "5ba56b89e109489708a298b59ba31beab05458f40102acaddb8b0b9e558e77a6", func := "wainscot/wainscotlaw04.SuperNewer", spec := "superNewer", unfollowed := true, recurses := true, apart := false, narrowed := true }
def SuperNewerUptoSaid : Prop := superNewerUptoRow.holds Try.pinned (OpenSpec.upto superNewerSpec)

end Rows
end Go.Proofs.Yteogkgjajhdhjaa
