/-
  Bytes of the call's own that are written over, one by one. No condition.
-/
import Derived.Test.YteogkgjajhdhjaaPackG
namespace Go.Proofs.Yteogkgjajhdhjaa
open Go.RowKit

theorem bv_get (l : List UInt8) (k : Nat) : (bv l)[k]? = (l[k]?).map fun c => Value.int .u8 (c.toNat : Int) := by simp [bv]

theorem own_cell {w : World} {g n c : Nat} {l : List UInt8} (h : w.ownsRow 0 5 1 (.slice (some ⟨g, 0, none⟩) n c) n (bv l)) {k : Nat} {x : UInt8} (hk : l[k]? = some x) :
    w.cell? ⟨g, k, none⟩ = some (.int .u8 (x.toNat : Int)) ∧ w.frozen? ⟨g, k, none⟩ = false ∧ ∀ y : UInt8, (w.setCell ⟨g, k, none⟩ (.int .u8 (y.toNat : Int))).ownsRow 0 5 1 (.slice (some ⟨g, 0, none⟩) n c) n (bv (l.set k y)) := by
  obtain ⟨h1, h2⟩ := h
  rcases h2 with ⟨h2, _⟩ | ⟨g', c', cur, hv, _, hg, hn, hc, hcs, ht⟩
  · cases h2
  · cases hv
    have hlt : g < w.heap.size := (Array.getElem?_eq_some_iff.1 hg).1
    have hkl : k < l.length := (List.getElem?_eq_some_iff.1 hk).1
    simp [bv] at h1
    have hkc : cur[k]? = some (.int .u8 (x.toNat : Int)) := by
      have h3 : (cur.toList.take (n * 1))[k]? = some (.int .u8 (x.toNat : Int)) := by rw [ht, bv_get, hk]; rfl
      rw [List.getElem?_take] at h3
      split at h3
      · simpa using h3
      · cases h3
    refine ⟨by simp [World.cell?, hg, hkc], by simp [World.frozen?, hg], fun y => ⟨by simp [bv]; omega, Or.inr ⟨g, c, cur.set! k (.int .u8 (y.toNat : Int)), rfl, Nat.zero_le _, ?_, hn, hc, by simpa using hcs, ?_⟩⟩⟩
    · have hg' : w.heap[g] = .cells cur 5 (0, 0) := by simpa [Array.getElem?_eq_getElem hlt] using hg
      show (w.heap.modify g _)[g]? = _
      rw [Array.getElem?_eq_getElem (by simpa using hlt), Array.getElem_modify_self, hg']
      simp
    · rw [show (cur.set! k (Value.int .u8 (y.toNat : Int))).toList = cur.toList.set k (.int .u8 (y.toNat : Int)) by simp]
      rw [List.take_set, ht]
      simp [bv, List.map_set]

theorem slice_own {w : World} {v : Value} {n : Nat} {xs : List Value} (h : w.ownsRow 0 5 1 v n xs) : (v = .slice none 0 0 ∧ n = 0) ∨ ∃ g c, v = .slice (some ⟨g, 0, none⟩) n c ∧ n ≤ c := by
  rcases h.2 with h | ⟨g, c, cur, hv, _, _, hn, _⟩
  · exact Or.inl h
  · exact Or.inr ⟨g, c, hv, hn⟩
end Go.Proofs.Yteogkgjajhdhjaa
