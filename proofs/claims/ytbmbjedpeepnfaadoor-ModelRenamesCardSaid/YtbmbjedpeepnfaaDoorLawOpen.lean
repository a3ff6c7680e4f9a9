/-
  How the arguments of the laws are opened: whole numbers, texts, lists of texts, lists of bytes. No condition.
-/
import Derived.Test.YtbmbjedpeepnfaaDoorLaw
namespace Go.Proofs.YtbmbjedpeepnfaaDoor
open Go.ChangeShapes Go.WideShapes Go.ChangeAt Go.RowKit

theorem Tryd.laidOut : laidOutB Tryd.prog = true := by kernel_rfl
theorem Tryd.own : ownKnob Tryd.prog.godebug = none := by kernel_rfl

theorem wf_i64 {n : Int} (h : (Lit.int .i64 n).wf = true) : -9223372036854775808 ≤ n ∧ n ≤ 9223372036854775807 := by
  simpa [Lit.wf, IntKind.min, IntKind.max, IntKind.signed, IntKind.bits] using h

theorem open_strs {H : Type} {enc : TypeId × Value → H} {P : Program} {t e : TypeId} (ht : P.underlying t = some (.slice e)) (he : P.underlying e = some .string) (hc : P.cellsOf e = 1) {W : World} {base : Nat} {v : Value} {d : DataW H} {p : List MemPlace}
    (hval : Value.okWide P W .any base t v) (h : DataW.Trod enc P W 0 (fun _ => true) true t v d p) : ∃ ss : List ByteArray, RdV W v ss.length 1 (ss.map Value.string) ∧ (∀ s ∈ ss, s.size ≤ 9223372036854775807) ∧ ss.length ≤ 9223372036854775807 := by
  obtain ⟨a0, len, cap, rfl⟩ := okWide_slice ht hval
  obtain ⟨fuel, hf⟩ := h
  rcases open_strings ht he hc hf with ⟨hcs, hx⟩ | ⟨a, len', cap', ss, hcs, _, hl, hm, hz, hx, hcell, hws⟩
  · simp [Value.cells] at hcs
    obtain ⟨rfl, rfl, rfl⟩ := hcs
    exact ⟨[], ⟨rfl, none, 0, rfl, Nat.le_refl _, fun _ => ⟨rfl, rfl⟩, fun a ha => by cases ha⟩, by simp, by simp⟩
  · simp [Value.cells] at hcs
    obtain ⟨rfl, rfl, rfl⟩ := hcs
    simp only [if_true] at hz
    have hlen : (ss.take len).length = len := by simp; omega
    unfold maxLen at hm hws
    refine ⟨ss.take len, ⟨by simp, some a, cap, by rw [hlen], by rw [hlen]; exact hl, (fun h => by cases h), (fun a' ha' j u hu => ?_)⟩, fun s hs => hws s (List.mem_of_mem_take hs), by omega⟩
    cases ha'
    rw [List.getElem?_map] at hu
    obtain ⟨s, hs, rfl⟩ := Option.map_eq_some_iff.1 hu
    rw [List.getElem?_take] at hs
    split at hs
    · have := hcell j (List.getElem?_eq_some_iff.1 hs).1
      rw [this]
      simp [List.getD, hs]
    · cases hs
end Go.Proofs.YtbmbjedpeepnfaaDoor
