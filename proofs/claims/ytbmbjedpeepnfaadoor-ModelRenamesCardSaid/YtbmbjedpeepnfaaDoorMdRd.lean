/-
  A row of bytes, cut: its beginning, its end; a file's bytes are such a row. No condition.
-/
import Derived.Test.YtbmbjedpeepnfaaDoorMdMem
namespace Go.Proofs.YtbmbjedpeepnfaaDoor
open Go.RowKit

theorem add_add (a : Addr) (m j : Nat) : (a.add m).add j = a.add (m + j) := by
  unfold Addr.add
  by_cases hm : m = 0
  · subst hm; simp
  · by_cases hj : j = 0
    · subst hj; simp [hm]
    · simp [hm, hj]; omega

theorem rd_take {w : World} {ao : Option Addr} {cap m : Nat} {l : List UInt8} (hc : l.length ≤ cap) (hm : m ≤ l.length) (hnn : ao = none → l.length = 0 ∧ cap = 0)
    (hx : ∀ a, ao = some a → ∀ j u, (bv l)[j]? = some u → w.cell? (a.add j) = some u) : RdV w (.slice ao m cap) m 1 (bv (l.take m)) := by
  refine ⟨by simp [bv]; omega, ao, cap, rfl, by omega, fun h => ⟨by have := hnn h; omega, (hnn h).2⟩, fun a ha j u hu => hx a ha j u ?_⟩
  simp only [bv, List.map_take] at hu ⊢
  rw [List.getElem?_take] at hu
  split at hu
  · exact hu
  · cases hu

theorem rd_drop {w : World} {ao ao' : Option Addr} {cap m : Nat} {l : List UInt8} (hc : l.length ≤ cap) (hm : m ≤ l.length) (hnn : ao = none → l.length = 0 ∧ cap = 0)
    (hx : ∀ a, ao = some a → ∀ j u, (bv l)[j]? = some u → w.cell? (a.add j) = some u) (ha : ao' = ao ∧ cap = m ∨ ao' = ao.map (fun x => x.add m)) :
    RdV w (.slice ao' (l.length - m) (cap - m)) (l.length - m) 1 (bv (l.drop m)) ∧ ∀ k ∈ fpOf (.slice ao' (l.length - m) (cap - m)), k ∈ fpOf (.slice ao l.length cap) := by
  refine ⟨⟨by simp [bv], ao', cap - m, rfl, by omega, fun h => ?_, fun a ha' j u hu => ?_⟩, fun k hk => ?_⟩
  · rcases ha with ⟨rfl, _⟩ | rfl
    · have := hnn h; omega
    · have := hnn (by cases ao <;> simp_all); omega
  · rcases ha with ⟨rfl, h⟩ | rfl
    · have h1 := (List.getElem?_eq_some_iff.1 hu).1
      simp [bv] at h1
      omega
    · obtain ⟨b, rfl, rfl⟩ := Option.map_eq_some_iff.1 ha'
      rw [add_add]
      refine hx b rfl _ u ?_
      simp only [bv, List.map_drop, List.getElem?_drop] at hu
      simpa [bv] using hu
  · cases ao with
    | none => rcases ha with ⟨rfl, _⟩ | rfl <;> simp [fpOf] at hk
    | some a =>
      have hb : (a.add m).block = a.block := by unfold Addr.add; split <;> rfl
      rcases ha with ⟨rfl, _⟩ | rfl
      · simp only [fpOf] at hk ⊢
        split at hk
        · cases hk
        · rw [if_neg (by omega)]; exact hk
      · simp only [fpOf, Option.map_some] at hk ⊢
        split at hk
        · cases hk
        · rw [if_neg (by omega)]; rw [hb] at hk; exact hk

/-- a file's bytes are read -/
theorem DRow.rd {w : World} {v : Value} {xs : List UInt8} (h : DRow w v xs) : RdV w v xs.length 1 (bv xs) := by
  rcases h with h | ⟨g, cur, rfl, h2, h3, h4⟩
  · exact RdV.ofOwn h
  · refine ⟨by simp [bv], some ⟨g, 0, none⟩, xs.length, rfl, Nat.le_refl _, (fun h => by cases h), fun a ha j u hu => ?_⟩
    injection ha with ha
    subst ha
    rw [← h4] at hu
    have hj : j < xs.length := by
      have := (List.getElem?_eq_some_iff.1 hu).1
      simp at this
      omega
    rw [List.getElem?_take, if_pos hj] at hu
    have hc := cell_of_row w g j cur 5 (0, 0) h2
    have ea : (⟨g, 0, none⟩ : Addr).add j = ⟨g, j, none⟩ := by
      unfold Addr.add
      by_cases e : j = 0
      · subst e; rfl
      · rw [if_neg e]; simp
    rw [ea, hc]
    simpa using hu
end Go.Proofs.YtbmbjedpeepnfaaDoor
