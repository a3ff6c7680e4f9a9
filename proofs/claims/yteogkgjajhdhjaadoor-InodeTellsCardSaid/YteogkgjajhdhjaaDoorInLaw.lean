/-
  How a law of layer 11 is opened: an inode among the arguments. No condition.
-/
import Derived.Test.YteogkgjajhdhjaaDoorInE
import Derived.Test.YteogkgjajhdhjaaDoorLawOpen
import Derived.Test.YteogkgjajhdhjaaDoorOpen2
import Derived.Test.YteogkgjajhdhjaaDoorCards
import Derived.Test.YteogkgjajhdhjaaDoorTie
import Derived.LaidMore
import Derived.Lay
import Derived.SevenTiedAt
import Derived.Stop.Joined
namespace Go.Proofs.YteogkgjajhdhjaaDoor
open Go.ChangeShapes Go.WideShapes Go.ChangeAt Go.RowKit

theorem open_node {H : Type} {enc : TypeId × Value → H} {P : Program} {t : TypeId} {f0 f1 f2 : Field} (hs : P.underlying t = some (.struct #[f0, f1, f2])) (hC : P.cellsOf t = 3)
    (o0 : f0.offset = 0) (o1 : f1.offset = 1) (o2 : f2.offset = 2) (c0 : P.cellsOf f0.type = 1) (c1 : P.cellsOf f1.type = 1) (c2 : P.cellsOf f2.type = 1)
    (t0 : P.underlying f0.type = some .bool) (t1 : P.underlying f1.type = some (.int .i64)) (t2 : P.underlying f2.type = some (.int .i64))
    {W : World} {base : Nat} {v : Value} {d : DataW H} {p : List MemPlace} (hval : Value.okWide P W .any base t v) (h : DataW.Trod enc P W 0 (fun _ => true) true t v d p) :
    ∃ (b : Bool) (l s : Int), v = .agg #[.bool b, .int .i64 l, .int .i64 s] ∧ (-9223372036854775808 ≤ l ∧ l ≤ 9223372036854775807) ∧ (-9223372036854775808 ≤ s ∧ s ≤ 9223372036854775807) := by
  obtain ⟨cs, rfl, hsz⟩ := okWide_struct hs hval
  obtain ⟨l⟩ := cs
  match l, hsz.trans hC with
  | [v0, v1, v2], _ =>
    obtain ⟨fuel, hf⟩ := h
    obtain ⟨xs, n, _, hx, _, hlen, hg⟩ := DataW.trod_struct hs hf
    match xs, hlen with
    | [y0, y1, y2], _ =>
      have g0 := hg 0 f0 rfl
      have g1 := hg 1 f1 rfl
      have g2 := hg 2 f2 rfl
      simp [Value.cells, o0, o1, o2, c0, c1, c2] at g0 g1 g2
      obtain ⟨b, e0, _⟩ := DataW.trod_bool t0 g0
      obtain ⟨n1, e1, _, w1⟩ := DataW.trod_int t1 g1
      obtain ⟨n2, e2, _, w2⟩ := DataW.trod_int t2 g2
      simp only [List.cons.injEq, and_true] at e0 e1 e2
      subst e0 e1 e2
      exact ⟨b, n1, n2, rfl, wf_i64 w1, wf_i64 w2⟩

set_option maxRecDepth 100000 in
theorem open_node' {H : Type} {enc : TypeId × Value → H} {W : World} {base : Nat} {v : Value} {d : DataW H} {p : List MemPlace} (hval : Value.okWide Tryd.prog W .any base 28 v) (h : DataW.Trod enc Tryd.prog W 0 (fun _ => true) true 28 v d p) :
    ∃ (b : Bool) (l s : Int), v = .agg #[.bool b, .int .i64 l, .int .i64 s] ∧ (-9223372036854775808 ≤ l ∧ l ≤ 9223372036854775807) ∧ (-9223372036854775808 ≤ s ∧ s ≤ 9223372036854775807) :=
  open_node Tryd.underlying28 (by kernel_rfl) rfl rfl rfl (by kernel_rfl) (by kernel_rfl) (by kernel_rfl) Tryd.underlying4 Tryd.underlying3 Tryd.underlying3 hval h
end Go.Proofs.YteogkgjajhdhjaaDoor
