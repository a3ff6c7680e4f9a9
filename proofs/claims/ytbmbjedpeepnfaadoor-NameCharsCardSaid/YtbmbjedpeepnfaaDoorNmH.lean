/-
  A text of one character: when it is a name, and how many pieces it has. Plain. No condition.
-/
import Derived.Test.YtbmbjedpeepnfaaDoorNmC
import Derived.Lib.DecodeN
import Derived.Lib.ValidLaws
namespace Go.Proofs.YtbmbjedpeepnfaaDoor
open Go.RowKit
namespace Nm

theorem count_ones (s : ByteArray) (h : ∀ j, j < s.size → Utf8.decode s j = (65533, 1)) : ∀ f j, j + f = s.size → Lib.runeCountFrom s f j = f
  | 0, _, _ => rfl
  | f + 1, j, hj => by
    unfold Lib.runeCountFrom
    rw [if_pos (by omega), h j (by omega), count_ones s h f (j + 1) (by omega)]
    omega

theorem char_of (l : List UInt8) (good : Bool) (h2 : 2 ≤ l.length) (h4 : l.length ≤ 4) (hb : ∀ b ∈ l, 128 ≤ b.toNat) (hg : good = true → ∃ v, Utf8.decode (tx l) 0 = (v, l.length))
    (hn : good = false → ∀ j, j < l.length → Utf8.decode (tx l) j = (65533, 1)) : right (tx l) = good ∧ Lib.runeCount (tx l) = if good = true then 1 else l.length := by
  have hs : (tx l).size = l.length := by show (tx l).data.size = _; simp [tx]
  have hne : l ≠ [] := fun h => by rw [h] at h2; simp at h2
  have hd : (tx l).data.toList = l := by simp [tx]
  have h46 : ∀ r : List UInt8, l ≠ 46 :: r := fun r h => by
    have := hb 46 (by rw [h]; simp)
    simp at this
  have ha : allOk (tx l) = true := by
    unfold allOk
    rw [hd, List.all_eq_true]
    intro b hm
    have := hb b hm
    unfold okB
    rw [decide_eq_true_eq]
    omega
  have e1 : (l == [46]) = false := by rw [beq_eq_false_iff_ne]; exact h46 _
  have e2 : (l == [46, 46]) = false := by rw [beq_eq_false_iff_ne]; exact h46 _
  have hr : right (tx l) = Lib.validD l := by
    unfold right
    rw [hd, hs, e1, e2, ha, decide_eq_true (show 1 ≤ l.length by omega), decide_eq_true (show l.length ≤ 18 by omega)]
    simp
  have hdl : Lib.decodeL l = Utf8.decode (tx l) 0 := rfl
  rw [hr, Lib.validD_step l hne, hdl]
  unfold Lib.runeCount
  rw [hs]
  cases good with
  | true =>
    obtain ⟨v, hv⟩ := hg rfl
    rw [hv]
    have hne1 : ¬ (v = 65533 ∧ l.length = 1) := by omega
    simp only [hne1, if_false, if_true, List.drop_length, Lib.validD_nil, true_and]
    obtain ⟨f, hf⟩ : ∃ f, l.length = f + 1 := ⟨l.length - 1, by omega⟩
    rw [hf]
    unfold Lib.runeCountFrom
    rw [if_pos (by omega), hv, Lib.runeCountFrom_end _ _ _ (by omega)]
  | false =>
    have h0 := hn rfl
    rw [h0 0 (by omega)]
    refine ⟨by simp, ?_⟩
    rw [count_ones (tx l) (fun j hj => h0 j (by omega)) l.length 0 (by omega)]
    simp

theorem bad_at (n b0 b1 b2 b3 : Nat) (h1 : 128 ≤ b0) (h2 : b0 < 192) : Lib.decodeN n b0 b1 b2 b3 = (65533, 1) := Lib.decodeN_bad n b0 b1 b2 b3 (Or.inl ⟨h1, by omega⟩)

theorem char2 (b0 b1 : UInt8) (m : Nat) (h0 : b0.toNat = 192 + m / 64) (h1 : b1.toNat = 128 + m % 64) (hm : 128 ≤ m) (hm2 : m < 2048) : right (tx [b0, b1]) = true ∧ Lib.runeCount (tx [b0, b1]) = 1 := by
  have := char_of [b0, b1] true (by simp) (by simp) (by intro b hb; simp at hb; rcases hb with rfl | rfl <;> omega) (fun _ => ⟨m, ?_⟩) (fun h => by cases h)
  · simpa using this
  · rw [Lib.decode_at]
    have e0 : (tx [b0, b1]).get! 0 = b0 := rfl
    have e1 : (tx [b0, b1]).get! 1 = b1 := rfl
    have es : (tx [b0, b1]).size = 2 := rfl
    rw [e0, e1, es, h0, h1]
    unfold Lib.decodeN
    rw [if_neg (by omega), if_pos (by omega), if_pos (by omega)]
    simp; omega

theorem char3 (b0 b1 b2 : UInt8) (m : Nat) (h0 : b0.toNat = 224 + m / 4096) (h1 : b1.toNat = 128 + m / 64 % 64) (h2 : b2.toNat = 128 + m % 64) (hm : 2048 ≤ m) (hm2 : m < 65536) :
    right (tx [b0, b1, b2]) = decide (m < 55296 ∨ 57343 < m) ∧ Lib.runeCount (tx [b0, b1, b2]) = if decide (m < 55296 ∨ 57343 < m) = true then 1 else 3 := by
  have e0 : (tx [b0, b1, b2]).get! 0 = b0 := rfl
  have e1 : (tx [b0, b1, b2]).get! 1 = b1 := rfl
  have e2 : (tx [b0, b1, b2]).get! 2 = b2 := rfl
  have es : (tx [b0, b1, b2]).size = 3 := rfl
  refine char_of [b0, b1, b2] _ (by simp) (by simp) (by intro b hb; simp at hb; rcases hb with rfl | rfl | rfl <;> omega) (fun hg => ⟨m, ?_⟩) (fun hg j hj => ?_)
  · rw [decide_eq_true_eq] at hg
    rw [Lib.decode_at, e0, e1, e2, es, h0, h1, h2]
    unfold Lib.decodeN
    rw [if_neg (by omega), if_neg (by omega), if_pos (by omega), if_pos (by omega)]
    simp; omega
  · rw [decide_eq_false_iff_not] at hg
    rw [Lib.decode_at, es]
    have : j = 0 ∨ j = 1 ∨ j = 2 := by simp at hj; omega
    rcases this with rfl | rfl | rfl
    · rw [e0, e1, e2, h0, h1, h2]
      unfold Lib.decodeN
      rw [if_neg (by omega), if_neg (by omega), if_pos (by omega), if_neg (by omega)]
    · rw [e1]; exact bad_at _ _ _ _ _ (by omega) (by omega)
    · rw [e2]; exact bad_at _ _ _ _ _ (by omega) (by omega)

theorem char4 (b0 b1 b2 b3 : UInt8) (m : Nat) (h0 : b0.toNat = 240 + m / 262144) (h1 : b1.toNat = 128 + m / 4096 % 64) (h2 : b2.toNat = 128 + m / 64 % 64) (h3 : b3.toNat = 128 + m % 64) (hm : 65536 ≤ m) (hm2 : m < 2097152) :
    right (tx [b0, b1, b2, b3]) = decide (m ≤ 1114111) ∧ Lib.runeCount (tx [b0, b1, b2, b3]) = if decide (m ≤ 1114111) = true then 1 else 4 := by
  have e0 : (tx [b0, b1, b2, b3]).get! 0 = b0 := rfl
  have e1 : (tx [b0, b1, b2, b3]).get! 1 = b1 := rfl
  have e2 : (tx [b0, b1, b2, b3]).get! 2 = b2 := rfl
  have e3 : (tx [b0, b1, b2, b3]).get! 3 = b3 := rfl
  have es : (tx [b0, b1, b2, b3]).size = 4 := rfl
  refine char_of [b0, b1, b2, b3] _ (by simp) (by simp) (by intro b hb; simp at hb; rcases hb with rfl | rfl | rfl | rfl <;> omega) (fun hg => ⟨m, ?_⟩) (fun hg j hj => ?_)
  · rw [decide_eq_true_eq] at hg
    rw [Lib.decode_at, e0, e1, e2, e3, es, h0, h1, h2, h3]
    unfold Lib.decodeN
    rw [if_neg (by omega), if_neg (by omega), if_neg (by omega), if_pos (by omega), if_pos (by omega)]
    simp; omega
  · rw [decide_eq_false_iff_not] at hg
    rw [Lib.decode_at, es]
    have : j = 0 ∨ j = 1 ∨ j = 2 ∨ j = 3 := by simp at hj; omega
    rcases this with rfl | rfl | rfl | rfl
    · rw [e0, e1, e2, e3, h0, h1, h2, h3]
      unfold Lib.decodeN
      rw [if_neg (by omega), if_neg (by omega), if_neg (by omega), if_pos (by omega), if_neg (by omega)]
    · rw [e1]; exact bad_at _ _ _ _ _ (by omega) (by omega)
    · rw [e2]; exact bad_at _ _ _ _ _ (by omega) (by omega)
    · rw [e3]; exact bad_at _ _ _ _ _ (by omega) (by omega)

/-- a text of one byte below 128 -/
theorem char1 (b : UInt8) (h : b.toNat < 128) : right (tx [b]) = decide (32 ≤ b.toNat ∧ b.toNat ≠ 127 ∧ b.toNat ≠ 47 ∧ b.toNat ≠ 46) ∧ Lib.runeCount (tx [b]) = 1 := by
  have hb : ∀ k : Fin 128, right (tx [UInt8.ofNat k.val]) = decide (32 ≤ k.val ∧ k.val ≠ 127 ∧ k.val ≠ 47 ∧ k.val ≠ 46) ∧ Lib.runeCount (tx [UInt8.ofNat k.val]) = 1 := by decide +kernel
  have := hb ⟨b.toNat, h⟩
  simpa using this
end Nm
end Go.Proofs.YtbmbjedpeepnfaaDoor
