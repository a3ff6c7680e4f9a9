/-
  The cells of a field of the law's list. No condition.
-/
import Derived.Test.YteogkgjajhdhjaaOpen2
import Derived.Test.YteogkgjajhdhjaaPackG
namespace Go.Proofs.Yteogkgjajhdhjaa
open Go.RowKit

theorem field_cells {w : World} {al : Option Addr} {a : Addr} {fs : List Fld} {j : Nat} {f : Fld} (hx : ∀ a, al = some a → ∀ j u, (fcells fs)[j]? = some u → w.cell? (a.add j) = some u) (ha : al = some a) (hf : fs[j]? = some f) :
    (a.add (j * 4)).block < w.heap.size ∧ ∀ W, Keep [] w W → W.cell? (a.add (j * 4)) = some (.int .i64 f.kind) ∧ W.cell? { block := (a.add (j * 4)).block, off := (a.add (j * 4)).off + 1 } = some (.int .i64 f.n) ∧
      W.cell? { block := (a.add (j * 4)).block, off := (a.add (j * 4)).off + 2 } = some (.int .u64 f.v) ∧ W.cell? { block := (a.add (j * 4)).block, off := (a.add (j * 4)).off + 3 } = some (.string f.s) := by
  have cell : ∀ i u, f.cells[i]? = some u → w.cell? (a.add (j * 4 + i)) = some u := fun i u hu => by
    have hi : i < 4 := (List.getElem?_eq_some_iff.1 hu).1
    exact hx a ha (j * 4 + i) u (by rw [fcells_get fs j i f hf hi]; exact hu)
  have e : ∀ i, 0 < i → ({ block := (a.add (j * 4)).block, off := (a.add (j * 4)).off + i } : Addr) = a.add (j * 4 + i) := fun i hi => by rw [← add_add]; simp [Addr.add]; omega
  have all : ∀ (p : Addr) (u : Value), w.cell? p = some u → ∀ W, Keep [] w W → W.cell? p = some u := fun p u h W k => by rw [k.cell (World.block_lt_of_cell? w _ h) (by simp)]; exact h
  refine ⟨World.block_lt_of_cell? w _ (cell 0 _ rfl), fun W k => ⟨all _ _ (cell 0 _ rfl) W k, ?_, ?_, ?_⟩⟩
  · rw [e 1 (by omega)]; exact all _ _ (cell 1 _ rfl) W k
  · rw [e 2 (by omega)]; exact all _ _ (cell 2 _ rfl) W k
  · rw [e 3 (by omega)]; exact all _ _ (cell 3 _ rfl) W k
end Go.Proofs.Yteogkgjajhdhjaa
