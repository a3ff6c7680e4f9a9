/-
  Names, paths, pieces of a text: plain functions on texts, and their laws. No program in sight. No condition.
-/
import Derived.Test.YtbmbjedpeepnfaaDoorBase
import Derived.Laws.RangeAny
import Derived.Lib.RuneCount
import Derived.Lib.ValidLaws
import Derived.Lib.OthersKept
namespace Go.Proofs.YtbmbjedpeepnfaaDoor
open Go.RowKit
namespace Nm

theorem get_at {s : ByteArray} {j : Nat} (h : j < s.size) : s.get! j = s[j]'h := by
  simp [ByteArray.get!, getElem!_pos, h]; rfl

/-- what a piece of one step of the decoder holds: it lies in the text, and, if it does not begin with ASCII, none of it is ASCII -/
theorem decode_bytes (s : ByteArray) (pos : Nat) (h : pos < s.size) (hh : 128 ≤ (s.get! pos).toNat) :
    ∀ d, d < (Utf8.decode s pos).2 → pos + d < s.size ∧ 128 ≤ (s.get! (pos + d)).toNat := by
  have hn : ¬ (s.get! (pos + 0)).toNat < 128 := by rw [Nat.add_zero]; omega
  have h0 : ∀ d, d < 1 → pos + d < s.size ∧ 128 ≤ (s.get! (pos + d)).toNat := fun d hd => by
    obtain rfl : d = 0 := by omega
    exact ⟨h, hh⟩
  have hc : ∀ k, (decide (pos + k < s.size) && (s.get! (pos + k)).toNat / 64 == 2) = true → pos + k < s.size ∧ 128 ≤ (s.get! (pos + k)).toNat := fun k hk => by
    simp only [Bool.and_eq_true, decide_eq_true_eq, beq_iff_eq] at hk
    omega
  simp only [Utf8.decode, hn, if_false]
  split
  · rename_i e
    simp only [Bool.and_eq_true] at e
    have c1 := hc 1 (by simpa using e.2)
    split
    · intro d hd
      have : d = 0 ∨ d = 1 := by simp at hd; omega
      rcases this with rfl | rfl
      · exact ⟨h, hh⟩
      · exact c1
    · exact h0
  · split
    · rename_i e
      simp only [Bool.and_eq_true] at e
      have c1 := hc 1 (by simpa using e.1.2)
      have c2 := hc 2 (by simpa using e.2)
      split
      · intro d hd
        have : d = 0 ∨ d = 1 ∨ d = 2 := by simp at hd; omega
        rcases this with rfl | rfl | rfl
        · exact ⟨h, hh⟩
        · exact c1
        · exact c2
      · exact h0
    · split
      · rename_i e
        simp only [Bool.and_eq_true] at e
        have c1 := hc 1 (by simpa using e.1.1.2)
        have c2 := hc 2 (by simpa using e.1.2)
        have c3 := hc 3 (by simpa using e.2)
        split
        · intro d hd
          have : d = 0 ∨ d = 1 ∨ d = 2 ∨ d = 3 := by simp at hd; omega
          rcases this with rfl | rfl | rfl | rfl
          · exact ⟨h, hh⟩
          · exact c1
          · exact c2
          · exact c3
        · exact h0
      · exact h0

theorem decode_asc (s : ByteArray) (pos : Nat) (h : pos < s.size) (ha : (s.get! pos).toNat < 128) : Utf8.decode s pos = ((s.get! pos).toNat, 1) := by
  rw [get_at h] at ha ⊢
  exact decode_ascii s pos h ha

theorem decode_pos (s : ByteArray) (pos : Nat) (h : pos < s.size) : 1 ≤ (Utf8.decode s pos).2 := Lib.decode_width_pos s pos h

theorem decode_in (s : ByteArray) (pos : Nat) (h : pos < s.size) : pos + (Utf8.decode s pos).2 ≤ s.size := by
  have h1 := decode_pos s pos h
  by_cases ha : (s.get! pos).toNat < 128
  · rw [decode_asc s pos h ha]; show pos + 1 ≤ _; omega
  · have := (decode_bytes s pos h (by omega) ((Utf8.decode s pos).2 - 1) (by omega)).1
    omega

/-- a byte that may be in a name -/
def okB (b : UInt8) : Bool := decide (32 ≤ b.toNat ∧ b.toNat ≠ 127 ∧ b.toNat ≠ 47)
/-- a character that may be in a name -/
def okR (r : Int) : Bool := decide (32 ≤ r ∧ r ≠ 127 ∧ r ≠ 47)

theorem okR_yes (s : ByteArray) (pos : Nat) (h : pos < s.size) (hr : okR (Utf8.decode s pos).1 = true) : ∀ d, d < (Utf8.decode s pos).2 → pos + d < s.size ∧ okB (s.get! (pos + d)) = true := by
  by_cases ha : (s.get! pos).toNat < 128
  · rw [decode_asc s pos h ha] at hr ⊢
    intro d hd
    obtain rfl : d = 0 := by simp at hd; omega
    refine ⟨h, ?_⟩
    unfold okR at hr
    unfold okB
    rw [decide_eq_true_eq] at hr ⊢
    rw [Nat.add_zero]
    simp only at hr
    omega
  · intro d hd
    have := decode_bytes s pos h (by omega) d hd
    refine ⟨this.1, ?_⟩
    unfold okB
    rw [decide_eq_true_eq]
    omega

theorem okR_no (s : ByteArray) (pos : Nat) (h : pos < s.size) (hr : okR (Utf8.decode s pos).1 = false) : okB (s.get! pos) = false := by
  by_cases ha : (s.get! pos).toNat < 128
  · rw [decode_asc s pos h ha] at hr
    unfold okR at hr
    unfold okB
    rw [decide_eq_false_iff_not] at hr ⊢
    simp only at hr
    omega
  · have h1 := (decode_high s pos h (by rw [← get_at h]; omega)).1
    unfold okR at hr
    rw [decide_eq_false_iff_not] at hr
    omega

def allOk (s : ByteArray) : Bool := s.data.toList.all okB

theorem allOk_iff (s : ByteArray) : allOk s = true ↔ ∀ j, j < s.size → okB (s.get! j) = true := by
  unfold allOk
  rw [List.all_eq_true]
  constructor
  · intro h j hj
    apply h
    rw [get_at hj]
    have hj2 : j < s.data.size := hj
    have : s[j]'hj = s.data[j]'hj2 := rfl
    rw [this]
    exact Array.getElem_mem_toList hj2
  · intro h b hb
    obtain ⟨j, hj, rfl⟩ := List.mem_iff_getElem.1 hb
    have hj2 : j < s.size := by simpa using hj
    have := h j hj2
    rw [get_at hj2] at this
    have e : s.data.toList[j] = s[j]'hj2 := by simp; rfl
    rw [e]
    exact this

/-- is a text a name? -/
def right (s : ByteArray) : Bool := decide (1 ≤ s.size) && decide (s.size ≤ 18) && !(s.data.toList == [46]) && !(s.data.toList == [46, 46]) && Lib.validD s.data.toList && allOk s

theorem runes_size (s : ByteArray) : ∀ (fuel i : Nat) (acc : Array Value), (Conv.runesFrom s fuel i acc).size = acc.size + Lib.runeCountFrom s fuel i
  | 0, _, acc => by simp [Conv.runesFrom, Lib.runeCountFrom]
  | fuel + 1, i, acc => by
    unfold Conv.runesFrom Lib.runeCountFrom
    by_cases h : i < s.size
    · rw [if_pos h, if_pos h]
      have := runes_size s fuel (i + (Utf8.decode s i).2) (acc.push (.int .i32 (Int.ofNat (Utf8.decode s i).1)))
      simp at this ⊢
      omega
    · rw [if_neg h, if_neg h]; rfl

/-- where the k-th piece begins -/
def posAt (s : ByteArray) : Nat → Nat
  | 0 => 0
  | k + 1 => posAt s k + (Utf8.decode s (posAt s k)).2

theorem count_split (s : ByteArray) : ∀ k, (∀ i, i < k → posAt s i < s.size) → k ≤ posAt s k ∧ posAt s k ≤ s.size ∧ Lib.runeCount s = k + Lib.runeCountFrom s (s.size - k) (posAt s k)
  | 0, _ => ⟨Nat.le_refl _, Nat.zero_le _, by rw [Nat.zero_add]; rfl⟩
  | k + 1, h => by
    obtain ⟨h1, h2, h3⟩ := count_split s k (fun i hi => h i (by omega))
    have hk := h k (by omega)
    have hp := decode_pos s _ hk
    have hin := decode_in s _ hk
    have e : posAt s (k + 1) = posAt s k + (Utf8.decode s (posAt s k)).2 := rfl
    refine ⟨by omega, by omega, ?_⟩
    rw [h3, e]
    obtain ⟨f, hf⟩ : ∃ f, s.size - k = f + 1 := ⟨s.size - k - 1, by omega⟩
    rw [hf, show s.size - (k + 1) = f by omega]
    conv => lhs; unfold Lib.runeCountFrom
    rw [if_pos hk]
    omega

theorem posAt_iff (s : ByteArray) (k : Nat) (h : ∀ i, i < k → posAt s i < s.size) : posAt s k < s.size ↔ k < Lib.runeCount s := by
  obtain ⟨h1, h2, h3⟩ := count_split s k h
  constructor
  · intro hk
    rw [h3]
    obtain ⟨f, hf⟩ : ∃ f, s.size - k = f + 1 := ⟨s.size - k - 1, by omega⟩
    rw [hf]
    unfold Lib.runeCountFrom
    rw [if_pos hk]
    omega
  · intro hk
    by_cases hp : posAt s k < s.size
    · exact hp
    · rw [Lib.runeCountFrom_end s _ _ hp] at h3; omega

theorem posAt_lt (s : ByteArray) : ∀ n k, k < n → k < Lib.runeCount s → posAt s k < s.size
  | 0, _, h, _ => absurd h (by omega)
  | n + 1, k, h, hk => (posAt_iff s k (fun i hi => posAt_lt s n i (by omega) (by omega))).2 hk

theorem posAt_low (s : ByteArray) {k : Nat} (hk : k < Lib.runeCount s) : posAt s k < s.size := posAt_lt s (k + 1) k (by omega) hk
theorem posAt_le (s : ByteArray) {k : Nat} (hk : k ≤ Lib.runeCount s) : posAt s k ≤ s.size := (count_split s k (fun i hi => posAt_low s (by omega))).2.1
theorem posAt_end (s : ByteArray) : posAt s (Lib.runeCount s) = s.size := by
  have h := posAt_iff s (Lib.runeCount s) (fun i hi => posAt_low s hi)
  have := posAt_le s (Nat.le_refl (Lib.runeCount s))
  omega

def more : ByteArray := ⟨#[226, 128, 166]⟩
/-- a text of at most n pieces -/
def short (s : ByteArray) (n : Int) : ByteArray := if n < 1 then ⟨#[]⟩ else if (Lib.runeCount s : Int) ≤ n then s else s.extract 0 (posAt s (n.toNat - 1)) ++ more

end Nm
end Go.Proofs.YtbmbjedpeepnfaaDoor
