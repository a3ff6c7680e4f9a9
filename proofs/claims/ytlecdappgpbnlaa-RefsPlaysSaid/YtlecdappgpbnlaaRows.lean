/-
  No cell of these rows narrows 'for every input' (looked for: loops, veiled, ifaces, maps, wideKeys, modest, calm, conditions, laid).
  DERIVED. THE GIVEN ROWS OF THIS SEAT. 5 by the template 'for every input the law returns true; each argument reads behind the call as it read before'; 0 by the template 'total and deterministic' (their statements: YtlecdappgpbnlaaTotals.lean).
  GIVEN WITH THE SEED: the statements are not yours to turn. If you find one false, say at which input.
  Laid BY PROGRAM, IN A SANDBOX (cutbox-rows.mjs): the forced cells as the released guide's own fill.sh prints them over the translation ff314bf9a6930393… (all of the seat's roots in one cut). By AI agents, Wed Nov 11 2026. No macro, syntax, notation, axiom, sorry.
-/
import Derived.Test.YtlecdappgpbnlaaChecked
import GoSem.Claim
import GoSem.ClaimJoined
import GoSem.ClaimMapViews
import Derived.JoinedTies
import Derived.KernelRfl
namespace Go.Proofs.Ytlecdappgpbnlaa
/- THE CELL 'sum', in the pinned program and in every row, IS THE sha256 OF THE DUMP (.gsa) THAT YtlecdappgpbnlaaProg.lean LOADS. Nothing in Lean hashes anything: it is a label: what it is worth is what the hold of that sum in a sandbox is worth. -/
noncomputable def Try.pinned : Pinned := { name := "ytlecdappgpbnlaa", sum := "ff314bf9a69303939ac98c522611a7215da75f542616d2f4c9b3072814a0ab3a", checked := Try.checked }
namespace Rows
def none {H : Type} : Left H := { results := [], args := [] }

/-- 'wainscotlaw06.RefsLeast': WHATEVER THE INPUT: true; the input reads as it did. -/
def refsLeastSpec : ChangeSpec := { name := "refsLeast", fn := fun _ => fun
  | [d1, d2] => { results := [.lit (.bool true)], args := [d1, d2] }
  | _ => none }
def refsLeastRow : OpenClaim := { program := "ytlecdappgpbnlaa", sum := "ff314bf9a69303939ac98c522611a7215da75f542616d2f4c9b3072814a0ab3a", func := "wainscot/wainscotlaw06.RefsLeast", spec := "refsLeast", unfollowed := true, recurses := true, apart := false }
def RefsLeastSaid : Prop := refsLeastRow.holds Try.pinned (OpenSpec.ofChange refsLeastSpec)

/-- ITS FALSE NEIGHBOUR: 'it returns false'. Refute it at one input. -/
def refsLeastWrong : ChangeSpec := { name := "refsLeast", fn := fun _ => fun
  | [d1, d2] => { results := [.lit (.bool false)], args := [d1, d2] }
  | _ => none }
def RefsLeastWrongFalsely : Prop := refsLeastRow.holds Try.pinned (OpenSpec.ofChange refsLeastWrong)

/-- 'wainscotlaw06.RefsTakes': WHATEVER THE INPUT: true; the input reads as it did. -/
def refsTakesSpec : ChangeSpec := { name := "refsTakes", fn := fun _ => fun
  | [d1, d2] => { results := [.lit (.bool true)], args := [d1, d2] }
  | _ => none }
def refsTakesRow : OpenClaim := { program := "ytlecdappgpbnlaa", sum := "ff314bf9a69303939ac98c522611a7215da75f542616d2f4c9b3072814a0ab3a", func := "wainscot/wainscotlaw06.RefsTakes", spec := "refsTakes", unfollowed := true, recurses := true, apart := false }
def RefsTakesSaid : Prop := refsTakesRow.holds Try.pinned (OpenSpec.ofChange refsTakesSpec)

/-- ITS FALSE NEIGHBOUR: 'it returns false'. Refute it at one input. -/
def refsTakesWrong : ChangeSpec := { name := "refsTakes", fn := fun _ => fun
  | [d1, d2] => { results := [.lit (.bool false)], args := [d1, d2] }
  | _ => none }
def RefsTakesWrongFalsely : Prop := refsTakesRow.holds Try.pinned (OpenSpec.ofChange refsTakesWrong)

/-- 'wainscotlaw06.RefsFar': WHATEVER THE INPUT: true; the input reads as it did. -/
def refsFarSpec : ChangeSpec := { name := "refsFar", fn := fun _ => fun
  | [d1, d2, d3] => { results := [.lit (.bool true)], args := [d1, d2, d3] }
  | _ => none }
def refsFarRow : OpenClaim := { program := "ytlecdappgpbnlaa", sum := "ff314bf9a69303939ac98c522611a7215da75f542616d2f4c9b3072814a0ab3a", func := "wainscot/wainscotlaw06.RefsFar", spec := "refsFar", unfollowed := true, recurses := true, apart := false }
def RefsFarSaid : Prop := refsFarRow.holds Try.pinned (OpenSpec.ofChange refsFarSpec)

/-- ITS FALSE NEIGHBOUR: 'it returns false'. Refute it at one input. -/
def refsFarWrong : ChangeSpec := { name := "refsFar", fn := fun _ => fun
  | [d1, d2, d3] => { results := [.lit (.bool false)], args := [d1, d2, d3] }
  | _ => none }
def RefsFarWrongFalsely : Prop := refsFarRow.holds Try.pinned (OpenSpec.ofChange refsFarWrong)

/-- 'wainscotlaw06.RefsBack': WHATEVER THE INPUT: true; the input reads as it did. -/
def refsBackSpec : ChangeSpec := { name := "refsBack", fn := fun _ => fun
  | [d1, d2, d3] => { results := [.lit (.bool true)], args := [d1, d2, d3] }
  | _ => none }
def refsBackRow : OpenClaim := { program := "ytlecdappgpbnlaa", sum := "ff314bf9a69303939ac98c522611a7215da75f542616d2f4c9b3072814a0ab3a", func := "wainscot/wainscotlaw06.RefsBack", spec := "refsBack", unfollowed := true, recurses := true, apart := false }
def RefsBackSaid : Prop := refsBackRow.holds Try.pinned (OpenSpec.ofChange refsBackSpec)

/-- ITS FALSE NEIGHBOUR: 'it returns false'. Refute it at one input. -/
def refsBackWrong : ChangeSpec := { name := "refsBack", fn := fun _ => fun
  | [d1, d2, d3] => { results := [.lit (.bool false)], args := [d1, d2, d3] }
  | _ => none }
def RefsBackWrongFalsely : Prop := refsBackRow.holds Try.pinned (OpenSpec.ofChange refsBackWrong)

/-- 'wainscotlaw06.RefsPlays': WHATEVER THE INPUT: true; the input reads as it did. -/
def refsPlaysSpec : ChangeSpec := { name := "refsPlays", fn := fun _ => fun
  | [d1, d2] => { results := [.lit (.bool true)], args := [d1, d2] }
  | _ => none }
def refsPlaysRow : OpenClaim := { program := "ytlecdappgpbnlaa", sum := "ff314bf9a69303939ac98c522611a7215da75f542616d2f4c9b3072814a0ab3a", func := "wainscot/wainscotlaw06.RefsPlays", spec := "refsPlays", inPlace := ["maps.clone"], unfollowed := true, recurses := true, apart := false }
def RefsPlaysSaid : Prop := refsPlaysRow.holds Try.pinned (OpenSpec.ofChange refsPlaysSpec)

/-- ITS FALSE NEIGHBOUR: 'it returns false'. Refute it at one input. -/
def refsPlaysWrong : ChangeSpec := { name := "refsPlays", fn := fun _ => fun
  | [d1, d2] => { results := [.lit (.bool false)], args := [d1, d2] }
  | _ => none }
def RefsPlaysWrongFalsely : Prop := refsPlaysRow.holds Try.pinned (OpenSpec.ofChange refsPlaysWrong)

/- THE SECOND FORM. 'bulk': how many values and letters a reading holds, each counted each time it is reached (what is shared counts as often as it is met; a slice's spare places count too). A statement '..UptoSaid' is the law's where the arguments, and the package variables that the reading takes, are together of bulk at most 1048576: NARROWER than '..Said'. Prove '..Said' where nothing that the law and all that it calls make is longer than what came in: it says more and counts as full. Else prove '..UptoSaid'. A law counts once. -/
mutual
def uptoBulk {H : Type} : DataW H → Nat
  | .lit (.string bytes) => bytes.length + 1
  | .lit _ => 1
  | .nil => 1
  | .ptr d => uptoBulk d + 1
  | .slice elems spare => uptoBulkAll elems + uptoBulkAll spare + 1
  | .agg parts => uptoBulkAll parts + 1
  | .iface _ d => uptoBulk d + 1
  | .map entries => uptoBulkEntries entries + 1
  | .held _ => 1
def uptoBulkAll {H : Type} : List (DataW H) → Nat
  | [] => 0
  | d :: r => uptoBulk d + uptoBulkAll r
def uptoBulkEntries {H : Type} : List (Lit × DataW H) → Nat
  | [] => 0
  | x :: r => uptoBulkEntry x + uptoBulkEntries r
def uptoBulkEntry {H : Type} : Lit × DataW H → Nat
  | (.string bytes, d) => bytes.length + uptoBulk d + 1
  | (_, d) => uptoBulk d + 1
 end
def uptoSmall : (H : Type) → List (DataW H) → Bool := fun _ ds => decide (uptoBulkAll ds ≤ 1048576)
def OpenSpec.upto (s : _root_.Go.ChangeSpec) : _root_.Go.OpenSpec := { _root_.Go.OpenSpec.ofChange s with cond := some uptoSmall }

/-- 'wainscotlaw06.RefsLeast', WHERE WHAT IT READS IS OF BULK AT MOST 1048576: true; the input reads as it did. -/
def refsLeastUptoRow : OpenClaim := { program := "ytlecdappgpbnlaa", sum := "ff314bf9a69303939ac98c522611a7215da75f542616d2f4c9b3072814a0ab3a", func := "wainscot/wainscotlaw06.RefsLeast", spec := "refsLeast", unfollowed := true, recurses := true, apart := false, narrowed := true }
def RefsLeastUptoSaid : Prop := refsLeastUptoRow.holds Try.pinned (OpenSpec.upto refsLeastSpec)

/-- 'wainscotlaw06.RefsTakes', WHERE WHAT IT READS IS OF BULK AT MOST 1048576: true; the input reads as it did. -/
def refsTakesUptoRow : OpenClaim := { program := "ytlecdappgpbnlaa", sum := "ff314bf9a69303939ac98c522611a7215da75f542616d2f4c9b3072814a0ab3a", func := "wainscot/wainscotlaw06.RefsTakes", spec := "refsTakes", unfollowed := true, recurses := true, apart := false, narrowed := true }
def RefsTakesUptoSaid : Prop := refsTakesUptoRow.holds Try.pinned (OpenSpec.upto refsTakesSpec)

/-- 'wainscotlaw06.RefsFar', WHERE WHAT IT READS IS OF BULK AT MOST 1048576: true; the input reads as it did. -/
def refsFarUptoRow : OpenClaim := { program := "ytlecdappgpbnlaa", sum := "ff314bf9a69303939ac98c522611a7215da75f542616d2f4c9b3072814a0ab3a", func := "wainscot/wainscotlaw06.RefsFar", spec := "refsFar", unfollowed := true, recurses := true, apart := false, narrowed := true }
def RefsFarUptoSaid : Prop := refsFarUptoRow.holds Try.pinned (OpenSpec.upto refsFarSpec)

/-- 'wainscotlaw06.RefsBack', WHERE WHAT IT READS IS OF BULK AT MOST 1048576: true; the input reads as it did. -/
def refsBackUptoRow : OpenClaim := { program := "ytlecdappgpbnlaa", sum := "ff314bf9a69303939ac98c522611a7215da75f542616d2f4c9b3072814a0ab3a", func := "wainscot/wainscotlaw06.RefsBack", spec := "refsBack", unfollowed := true, recurses := true, apart := false, narrowed := true }
def RefsBackUptoSaid : Prop := refsBackUptoRow.holds Try.pinned (OpenSpec.upto refsBackSpec)

/-- 'wainscotlaw06.RefsPlays', WHERE WHAT IT READS IS OF BULK AT MOST 1048576: true; the input reads as it did. -/
def refsPlaysUptoRow : OpenClaim := { program := "ytlecdappgpbnlaa", sum := "ff314bf9a69303939ac98c522611a7215da75f542616d2f4c9b3072814a0ab3a", func := "wainscot/wainscotlaw06.RefsPlays", spec := "refsPlays", inPlace := ["maps.clone"], unfollowed := true, recurses := true, apart := false, narrowed := true }
def RefsPlaysUptoSaid : Prop := refsPlaysUptoRow.holds Try.pinned (OpenSpec.upto refsPlaysSpec)

end Rows
end Go.Proofs.Ytlecdappgpbnlaa
