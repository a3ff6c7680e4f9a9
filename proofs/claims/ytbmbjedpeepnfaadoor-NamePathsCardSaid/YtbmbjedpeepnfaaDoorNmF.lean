/-
  Pieces of two texts put together, the second one beginning with ASCII: the first one's and the second one's. Plain. No condition.
-/
import Derived.Test.YtbmbjedpeepnfaaDoorNmE
namespace Go.Proofs.YtbmbjedpeepnfaaDoor
open Go.RowKit
namespace Nm

theorem get_left (s t : ByteArray) (j : Nat) (h : j < s.size) : (s ++ t).get! j = s.get! j := by
  rw [get_at (show j < (s ++ t).size by rw [ByteArray.size_append]; omega), get_at h]
  exact ByteArray.getElem_append_left h

theorem get_right (s t : ByteArray) (j : Nat) (h : j < t.size) : (s ++ t).get! (s.size + j) = t.get! j := by
  rw [get_at (show s.size + j < (s ++ t).size by rw [ByteArray.size_append]; omega), get_at h]
  have := ByteArray.getElem_append_right (a := s) (b := t) (i := s.size + j) (show s.size ≤ s.size + j by omega) (h := by rw [ByteArray.size_append]; omega)
  rw [this]
  congr 1
  omega

theorem cont_low (s t : ByteArray) (q k : Nat) (h : q + k < s.size) : cont (s ++ t) q k = cont s q k := by
  unfold cont
  rw [get_left s t _ h, ByteArray.size_append]
  have h2 : q + k < s.size + t.size := by omega
  simp [h, h2]

theorem cont_high (s : ByteArray) (q k : Nat) (h : s.size ≤ q + k) : cont s q k = false := by
  unfold cont
  have h2 : ¬ q + k < s.size := by omega
  simp [h2]

theorem cont_border (s t : ByteArray) (q k : Nat) (h : q + k = s.size) (ht : 0 < t.size) (h0 : (t.get! 0).toNat < 128) : cont (s ++ t) q k = false := by
  unfold cont
  rw [h, show s.size = s.size + 0 from rfl, get_right s t 0 ht]
  have : (t.get! 0).toNat / 64 ≠ 2 := by omega
  simp [this]

theorem decode_left (s t : ByteArray) (q : Nat) (hq : q < s.size) (ht : 0 < t.size) (h0 : (t.get! 0).toNat < 128) : Utf8.decode (s ++ t) q = Utf8.decode s q := by
  have e1 : cont (s ++ t) q 1 = cont s q 1 := by
    by_cases h : q + 1 < s.size
    · exact cont_low s t q 1 h
    · rw [cont_border s t q 1 (by omega) ht h0, cont_high s q 1 (by omega)]
  have e2 : (cont (s ++ t) q 1 && cont (s ++ t) q 2) = (cont s q 1 && cont s q 2) := by
    by_cases h : q + 2 < s.size
    · rw [e1, cont_low s t q 2 h]
    · by_cases h1 : q + 1 < s.size
      · rw [cont_border s t q 2 (by omega) ht h0, cont_high s q 2 (by omega)]; simp
      · rw [e1, cont_high s q 1 (by omega)]; simp
  have e3 : (cont (s ++ t) q 1 && cont (s ++ t) q 2 && cont (s ++ t) q 3) = (cont s q 1 && cont s q 2 && cont s q 3) := by
    rw [e2]
    by_cases h : q + 3 < s.size
    · rw [cont_low s t q 3 h]
    · by_cases h2 : q + 2 < s.size
      · rw [cont_border s t q 3 (by omega) ht h0, cont_high s q 3 (by omega)]
      · rw [cont_high s q 2 (by omega)]; simp
  rw [decode_decP (s ++ t) q, decode_decP s q, e3, e2, e1, get_left s t q hq]
  apply decP_bytes
  · simp; intro a _; exact a
  · simp; intro a b _; exact ⟨a, b⟩
  · intro h
    have : q + 1 < s.size := by
      by_cases h1 : q + 1 < s.size
      · exact h1
      · rw [cont_high s q 1 (by omega)] at h; cases h
    rw [get_left s t _ this]
  · intro h
    have : q + 2 < s.size := by
      by_cases h1 : q + 2 < s.size
      · exact h1
      · rw [cont_high s q 2 (by omega)] at h; simp at h
    rw [get_left s t _ this]
  · intro h
    have : q + 3 < s.size := by
      by_cases h1 : q + 3 < s.size
      · exact h1
      · rw [cont_high s q 3 (by omega)] at h; simp at h
    rw [get_left s t _ this]

theorem get_far (t : ByteArray) (j : Nat) (h : t.size ≤ j) : t.get! j = default := by
  have h2 : ¬ j < t.data.size := by show ¬ j < t.size; omega
  unfold ByteArray.get!
  exact getElem!_neg t.data j h2

theorem decode_right (s t : ByteArray) (q : Nat) : Utf8.decode (s ++ t) (s.size + q) = Utf8.decode t q := by
  have g : ∀ j, (s ++ t).get! (s.size + j) = t.get! j := fun j => by
    by_cases h : j < t.size
    · exact get_right s t j h
    · rw [get_far t j (by omega), get_far (s ++ t) _ (by rw [ByteArray.size_append]; omega)]
  have c : ∀ k, cont (s ++ t) (s.size + q) k = cont t q k := fun k => by
    unfold cont
    rw [Nat.add_assoc, g, ByteArray.size_append]
    congr 1
    simp
  rw [decode_decP (s ++ t), decode_decP t, c 1, c 2, c 3, Nat.add_assoc, Nat.add_assoc, Nat.add_assoc, g, g, g, g]

theorem count_app (s t : ByteArray) (ht : 0 < t.size) (h0 : (t.get! 0).toNat < 128) : Lib.runeCount (s ++ t) = Lib.runeCount s + Lib.runeCount t := by
  have hsz : (s ++ t).size = s.size + t.size := ByteArray.size_append
  have hl : ∀ i, i ≤ Lib.runeCount s → posAt (s ++ t) i = posAt s i := by
    intro i
    induction i with
    | zero => intro _; rfl
    | succ i ih =>
      intro hi
      have h1 := ih (by omega)
      show posAt (s ++ t) i + (Utf8.decode (s ++ t) (posAt (s ++ t) i)).2 = posAt s i + (Utf8.decode s (posAt s i)).2
      rw [h1, decode_left s t _ (posAt_low s (by omega)) ht h0]
  have hr : ∀ j, posAt (s ++ t) (Lib.runeCount s + j) = s.size + posAt t j := by
    intro j
    induction j with
    | zero => rw [Nat.add_zero, hl _ (Nat.le_refl _), posAt_end]; rfl
    | succ j ih =>
      show posAt (s ++ t) (Lib.runeCount s + j) + (Utf8.decode (s ++ t) (posAt (s ++ t) (Lib.runeCount s + j))).2 = s.size + (posAt t j + (Utf8.decode t (posAt t j)).2)
      rw [ih, decode_right, Nat.add_assoc]
  have hlow : ∀ i, i < Lib.runeCount s + Lib.runeCount t → posAt (s ++ t) i < (s ++ t).size := by
    intro i hi
    rw [hsz]
    by_cases h : i < Lib.runeCount s
    · rw [hl i (by omega)]; have := posAt_low s h; omega
    · obtain ⟨j, rfl⟩ : ∃ j, i = Lib.runeCount s + j := ⟨i - Lib.runeCount s, by omega⟩
      rw [hr]; have := posAt_low t (show j < Lib.runeCount t by omega); omega
  have h := posAt_iff (s ++ t) _ hlow
  rw [hr, posAt_end, hsz] at h
  have hge : Lib.runeCount s + Lib.runeCount t ≤ Lib.runeCount (s ++ t) := by
    rcases Nat.eq_zero_or_pos (Lib.runeCount s + Lib.runeCount t) with hz | hz
    · omega
    · have h3 := (posAt_iff (s ++ t) (Lib.runeCount s + Lib.runeCount t - 1) (fun i hi => hlow i (by omega))).1 (hlow _ (by omega))
      omega
  omega

theorem count_pos (t : ByteArray) (ht : 0 < t.size) : 1 ≤ Lib.runeCount t := (posAt_iff t 0 (fun i h => absurd h (by omega))).1 ht
end Nm
end Go.Proofs.YtbmbjedpeepnfaaDoor
