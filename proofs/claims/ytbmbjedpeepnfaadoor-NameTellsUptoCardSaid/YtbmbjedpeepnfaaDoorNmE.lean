/-
  Pieces of a text: a beginning's, and those of two texts put together. Plain. No condition.
-/
import Derived.Test.YtbmbjedpeepnfaaDoorNmPlain
namespace Go.Proofs.YtbmbjedpeepnfaaDoor
open Go.RowKit
namespace Nm

/-- one step of the decoder, over its bytes, and over how many of the next ones go on -/
def decP (b0 a1 a2 a3 : Nat) (P1 P2 P3 : Bool) : Nat × Nat :=
  if b0 < 0x80 then (b0, 1)
  else if b0 / 32 == 6 && P1 then
    if (b0 % 32) * 64 + a1 % 64 ≥ 0x80 then ((b0 % 32) * 64 + a1 % 64, 2) else (65533, 1)
  else if b0 / 16 == 14 && P2 then
    if (b0 % 16) * 4096 + (a1 % 64) * 64 + a2 % 64 ≥ 0x800 && Utf8.valid ((b0 % 16) * 4096 + (a1 % 64) * 64 + a2 % 64 : Nat) then ((b0 % 16) * 4096 + (a1 % 64) * 64 + a2 % 64, 3) else (65533, 1)
  else if b0 / 8 == 30 && P3 then
    if (b0 % 8) * 262144 + (a1 % 64) * 4096 + (a2 % 64) * 64 + a3 % 64 ≥ 0x10000 && Utf8.valid ((b0 % 8) * 262144 + (a1 % 64) * 4096 + (a2 % 64) * 64 + a3 % 64 : Nat) then ((b0 % 8) * 262144 + (a1 % 64) * 4096 + (a2 % 64) * 64 + a3 % 64, 4) else (65533, 1)
  else (65533, 1)

def cont (s : ByteArray) (i k : Nat) : Bool := decide (i + k < s.size) && (s.get! (i + k)).toNat / 64 == 2

theorem decode_decP (s : ByteArray) (i : Nat) : Utf8.decode s i = decP (s.get! i).toNat (s.get! (i + 1)).toNat (s.get! (i + 2)).toNat (s.get! (i + 3)).toNat (cont s i 1) (cont s i 1 && cont s i 2) (cont s i 1 && cont s i 2 && cont s i 3) := by
  unfold Utf8.decode decP cont Utf8.runeError
  simp only [Nat.add_zero, Bool.and_assoc]

/-- bytes that are not looked at may be others -/
theorem decP_bytes {b0 a1 a2 a3 a1' a2' a3' : Nat} {P1 P2 P3 : Bool} (h21 : P2 = true → P1 = true) (h32 : P3 = true → P2 = true) (h1 : P1 = true → a1' = a1) (h2 : P2 = true → a2' = a2) (h3 : P3 = true → a3' = a3) : decP b0 a1' a2' a3' P1 P2 P3 = decP b0 a1 a2 a3 P1 P2 P3 := by
  cases P3 with
  | true =>
    have e2 := h32 rfl
    subst e2
    have e1 := h21 rfl
    subst e1
    rw [h1 rfl, h2 rfl, h3 rfl]
  | false =>
    cases P2 with
    | true =>
      have e1 := h21 rfl
      subst e1
      rw [h1 rfl, h2 rfl]
      unfold decP
      simp
    | false =>
      cases P1 with
      | true => rw [h1 rfl]; unfold decP; simp
      | false => unfold decP; simp

theorem cut_br (n : Nat) (P e : Bool) (q : Prop) [Decidable q] (c d : Nat × Nat) (hn : n ≤ c.2) (h : n ≤ (if P = true then (if q then c else d) else d).2 → e = true) : (if (P && e) = true then (if q then c else d) else d) = if P = true then (if q then c else d) else d := by
  cases P with
  | false => simp
  | true =>
    cases e with
    | true => simp
    | false =>
      by_cases hq : q
      · simp [hq] at h; omega
      · simp [hq]

/-- what is cut off behind a piece is not looked at -/
theorem decP_cut {b0 a1 a2 a3 : Nat} {P1 P2 P3 e1 e2 e3 : Bool} (h1 : 2 ≤ (decP b0 a1 a2 a3 P1 P2 P3).2 → e1 = true) (h2 : 3 ≤ (decP b0 a1 a2 a3 P1 P2 P3).2 → e2 = true) (h3 : 4 ≤ (decP b0 a1 a2 a3 P1 P2 P3).2 → e3 = true) :
    decP b0 a1 a2 a3 (P1 && e1) (P2 && e2) (P3 && e3) = decP b0 a1 a2 a3 P1 P2 P3 := by
  unfold decP at h1 h2 h3 ⊢
  by_cases c0 : b0 < 128
  · simp only [c0, if_true]
  · simp only [c0, if_false] at h1 h2 h3 ⊢
    by_cases c1 : (b0 / 32 == 6) = true
    · have n2 : (b0 / 16 == 14) = false := by simp only [beq_iff_eq] at c1; rw [beq_eq_false_iff_ne]; omega
      have n3 : (b0 / 8 == 30) = false := by simp only [beq_iff_eq] at c1; rw [beq_eq_false_iff_ne]; omega
      simp only [c1, n2, n3, Bool.true_and, Bool.false_and, Bool.false_eq_true, if_false] at h1 h2 h3 ⊢
      exact cut_br 2 P1 e1 _ _ _ (Nat.le_refl _) h1
    · have n1 : (b0 / 32 == 6) = false := by simpa using c1
      by_cases c2 : (b0 / 16 == 14) = true
      · have n3 : (b0 / 8 == 30) = false := by simp only [beq_iff_eq] at c2; rw [beq_eq_false_iff_ne]; omega
        simp only [n1, c2, n3, Bool.true_and, Bool.false_and, Bool.false_eq_true, if_false] at h1 h2 h3 ⊢
        exact cut_br 3 P2 e2 _ _ _ (Nat.le_refl _) h2
      · have n2 : (b0 / 16 == 14) = false := by simpa using c2
        by_cases c3 : (b0 / 8 == 30) = true
        · simp only [n1, n2, c3, Bool.true_and, Bool.false_and, Bool.false_eq_true, if_false] at h1 h2 h3 ⊢
          exact cut_br 4 P3 e3 _ _ _ (Nat.le_refl _) h3
        · have n3 : (b0 / 8 == 30) = false := by simpa using c3
          simp only [n1, n2, n3, Bool.false_and, Bool.false_eq_true, if_false]

theorem get_extract (s : ByteArray) (p j : Nat) (hp : p ≤ s.size) (hj : j < p) : (s.extract 0 p).get! j = s.get! j := by
  rw [get_at (show j < (s.extract 0 p).size by rw [ByteArray.size_extract]; omega), get_at (show j < s.size by omega)]
  have e : (s.extract 0 p)[j]'(by rw [ByteArray.size_extract]; omega) = s[0 + j]'(by omega) := ByteArray.getElem_extract _
  rw [e]
  simp only [Nat.zero_add]

theorem decode_cut (s : ByteArray) (p q : Nat) (hp : p ≤ s.size) (hq : q < p) (h : q + (Utf8.decode s q).2 ≤ p) : Utf8.decode (s.extract 0 p) q = Utf8.decode s q := by
  have hsz : (s.extract 0 p).size = p := by rw [ByteArray.size_extract]; omega
  have hc : ∀ k, cont (s.extract 0 p) q k = (cont s q k && decide (q + k < p)) := fun k => by
    unfold cont
    by_cases hk : q + k < p
    · rw [hsz, get_extract s p _ hp hk]
      have : q + k < s.size := by omega
      simp [hk, this]
    · rw [hsz]; simp [hk]
  rw [decode_decP s q] at h ⊢
  rw [decode_decP (s.extract 0 p) q, get_extract s p _ hp hq, hc 1, hc 2, hc 3]
  generalize hP1 : cont s q 1 = c1 at *
  generalize hP2 : cont s q 2 = c2 at *
  generalize hP3 : cont s q 3 = c3 at *
  have e2 : (c1 && decide (q + 1 < p) && (c2 && decide (q + 2 < p))) = (c1 && c2 && decide (q + 2 < p)) := by
    by_cases h2 : q + 2 < p
    · have h1 : q + 1 < p := by omega
      simp [h1, h2]
    · simp [h2]
  have e3 : (c1 && decide (q + 1 < p) && (c2 && decide (q + 2 < p)) && (c3 && decide (q + 3 < p))) = (c1 && c2 && c3 && decide (q + 3 < p)) := by
    by_cases h3 : q + 3 < p
    · have h1 : q + 1 < p := by omega
      have h2 : q + 2 < p := by omega
      simp [h1, h2, h3]
    · simp [h3]
  rw [e3, e2]
  rw [decP_bytes (a1 := (s.get! (q + 1)).toNat) (a2 := (s.get! (q + 2)).toNat) (a3 := (s.get! (q + 3)).toNat)]
  · exact decP_cut (fun h => by simp; omega) (fun h => by simp; omega) (fun h => by simp; omega)
  · simp; intro a b c; exact ⟨a, by omega⟩
  · simp; intro a b c d; exact ⟨⟨a, b⟩, by omega⟩
  · simp; intro _ h; rw [get_extract s p _ hp h]
  · simp; intro _ _ h; rw [get_extract s p _ hp h]
  · simp; intro _ _ _ h; rw [get_extract s p _ hp h]

theorem posAt_mono (s : ByteArray) {i k : Nat} (h : i < k) (hk : k ≤ Lib.runeCount s) : posAt s i < posAt s k := by
  induction k with
  | zero => omega
  | succ k ih =>
    have hp := decode_pos s _ (posAt_low s (show k < Lib.runeCount s by omega))
    have e : posAt s (k + 1) = posAt s k + (Utf8.decode s (posAt s k)).2 := rfl
    by_cases hik : i = k
    · subst hik; omega
    · have := ih (by omega) (by omega)
      omega

/-- a beginning of k pieces has k -/
theorem count_cut (s : ByteArray) (k : Nat) (hk : k ≤ Lib.runeCount s) : Lib.runeCount (s.extract 0 (posAt s k)) = k := by
  have hle := posAt_le s hk
  have hsz : (s.extract 0 (posAt s k)).size = posAt s k := by rw [ByteArray.size_extract]; omega
  have hat : ∀ i, i ≤ k → posAt (s.extract 0 (posAt s k)) i = posAt s i := by
    intro i
    induction i with
    | zero => intro _; rfl
    | succ i ih =>
      intro hi
      have h1 := ih (by omega)
      have h2 := posAt_mono s (show i < k by omega) hk
      have e1 : posAt s (i + 1) = posAt s i + (Utf8.decode s (posAt s i)).2 := rfl
      have e2 : posAt (s.extract 0 (posAt s k)) (i + 1) = posAt (s.extract 0 (posAt s k)) i + (Utf8.decode (s.extract 0 (posAt s k)) (posAt (s.extract 0 (posAt s k)) i)).2 := rfl
      have h3 : posAt s (i + 1) ≤ posAt s k := by
        by_cases h : i + 1 = k
        · rw [h]; exact Nat.le_refl _
        · exact Nat.le_of_lt (posAt_mono s (by omega) hk)
      rw [e2, h1, decode_cut s _ _ hle h2 (by omega), e1]
  have hlow : ∀ i, i < k → posAt (s.extract 0 (posAt s k)) i < (s.extract 0 (posAt s k)).size := fun i hi => by
    rw [hat i (by omega), hsz]; exact posAt_mono s hi hk
  have h := posAt_iff _ k hlow
  rw [hat k (Nat.le_refl _), hsz] at h
  have h2 : k ≤ Lib.runeCount (s.extract 0 (posAt s k)) := by
    cases k with
    | zero => omega
    | succ k =>
      have h3 := (posAt_iff _ k (fun i hi => hlow i (by omega))).1 (hlow k (by omega))
      omega
  omega

end Nm
end Go.Proofs.YtbmbjedpeepnfaaDoor
