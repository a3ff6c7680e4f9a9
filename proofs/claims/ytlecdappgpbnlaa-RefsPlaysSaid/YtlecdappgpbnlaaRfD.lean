/-
  A slice that is made, as a block; lists of numbers among a law's arguments. No condition.
-/
import Derived.Test.YtlecdappgpbnlaaRfC
import Derived.Test.YtlecdappgpbnlaaLawOpen
import Derived.Test.YtlecdappgpbnlaaArith
namespace Go.Proofs.Ytlecdappgpbnlaa
open Go.RowKit Go.ChangeShapes Go.WideShapes Go.ChangeAt Go.Deep

theorem make_blk {P : Program} (w : World) (t e : TypeId) (i : TypeInfo) (z : Value) (ht : P.underlying t = some (.slice e)) (hi : P.info? e = some i) (hz : i.zero = some z) (hs : i.size = 1) (hz1 : z.cells = #[z]) (n : Nat) (hb : i.bytes * n ≤ 281474976710656) (h63 : n ≤ 9223372036854775807) :
    ∃ w', (Instr.makeSlice t (.int .i64 (n : Int)) (.int .i64 (n : Int))).run P w = .ok (.slice (some ⟨w.heap.size, 0, none⟩) n n) w' ∧ Blk w' w.heap.size (List.replicate n z) e ∧ Keep [] w w' := by
  have hr := run_make (P := P) w t e i z ht hi hz .i64 .i64 n n (by omega) (Int.le_refl _) (by rw [← Int.natCast_mul]; omega) (by omega)
  simp only [Int.toNat_natCast, hs, Nat.mul_one, hz1] at hr
  refine ⟨_, hr, ?_, (Keep.refl _ _).alloc _⟩
  have := Blk.new w (madeCells #[z] n) e
  rwa [toList_madeCells_one] at this

/-- a list of numbers among the arguments -/
theorem open_numbers {H : Type} {enc : TypeId × Value → H} {P : Program} {t e : TypeId} (ht : P.underlying t = some (.slice e)) (he : P.underlying e = some (.int .i64)) (hc : P.cellsOf e = 1) {W : World} {base : Nat} {v : Value} {d : DataW H} {p : List MemPlace}
    (hval : Value.okWide P W .any base t v) (h : DataW.Trod enc P W 0 (fun _ => true) true t v d p) : ∃ l : List Int, RdV W v l.length 1 (l.map (Value.int .i64)) ∧ l.length ≤ 9223372036854775807 ∧ ∀ x ∈ l, -9223372036854775808 ≤ x ∧ x ≤ 9223372036854775807 := by
  obtain ⟨a0, len, cap, rfl⟩ := okWide_slice ht hval
  obtain ⟨fuel, hf⟩ := h
  rcases open_slice1 ht hc hf with ⟨hcs, hx⟩ | ⟨a, len', cap', m, n, V, D, Pl, hcs, _, hl, hm, hz, hx, hcell⟩
  · simp [Value.cells] at hcs
    obtain ⟨rfl, rfl, rfl⟩ := hcs
    exact ⟨[], ⟨rfl, none, 0, rfl, Nat.le_refl _, fun _ => ⟨rfl, rfl⟩, fun a ha => by cases ha⟩, by simp, by simp⟩
  · simp [Value.cells] at hcs
    obtain ⟨rfl, rfl, rfl⟩ := hcs
    simp only [if_true] at hz
    unfold maxLen at hm
    have key : ∀ i, i < len → ∃ b : Int, W.cell? (a.add i) = some (.int .i64 b) ∧ -9223372036854775808 ≤ b ∧ b ≤ 9223372036854775807 := by
      intro i hi
      obtain ⟨h1, h2⟩ := hcell i (by omega)
      obtain ⟨k, hk, _, hw⟩ := DataW.trod_int he h2
      simp only [List.cons.injEq, and_true] at hk
      have hb := wf_i64 hw
      exact ⟨k, by rw [h1, hk], hb.1, hb.2⟩
    obtain ⟨B, hB⟩ := choose_lt key
    refine ⟨(List.range len).map B, ⟨by simp, some a, cap, by simp, by simpa using hl, (fun h => by cases h), (fun a' ha' j u hu => ?_)⟩, by simp; omega, ?_⟩
    · cases ha'
      simp only [List.map_map, List.getElem?_map] at hu
      obtain ⟨x, hx, rfl⟩ := Option.map_eq_some_iff.1 hu
      have hxl : x < len := by have := List.mem_of_getElem? hx; simpa using this
      rw [List.getElem?_range (by have := (List.getElem?_eq_some_iff.1 hx).1; simpa using this)] at hx
      cases hx
      exact (hB j hxl).1
    · intro x hx
      obtain ⟨i, hi, rfl⟩ := List.mem_map.1 hx
      exact (hB i (by simpa using hi)).2
end Go.Proofs.Ytlecdappgpbnlaa
