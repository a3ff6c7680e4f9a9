/-
  Layer 4, plain: snapshots made of names; when they may be. No condition.
-/
import Derived.Test.YteogkgjajhdhjaaSuperL
namespace Go.Proofs.Yteogkgjajhdhjaa
namespace Sp

/-- the snapshots of the first k names -/
def snapsOf (names : List ByteArray) (k : Nat) : List Sn := (List.range k).map fun j => ⟨names.getD j ByteArray.empty, 0, ((j % 4 : Nat) : Int)⟩
theorem snapsOf_length (names : List ByteArray) (k : Nat) : (snapsOf names k).length = k := by simp [snapsOf]
theorem snapsOf_succ (names : List ByteArray) (k : Nat) : snapsOf names (k + 1) = snapsOf names k ++ [⟨names.getD k ByteArray.empty, 0, ((k % 4 : Nat) : Int)⟩] := by simp [snapsOf, List.range_succ]
theorem snapsOf_get (names : List ByteArray) {k j : Nat} (h : j < k) : (snapsOf names k)[j]? = some ⟨names.getD j ByteArray.empty, 0, ((j % 4 : Nat) : Int)⟩ := by
  simp [snapsOf, List.getElem?_map, List.getElem?_range h]

def lastOf (last : List UInt8) : List Sn → List UInt8
  | [] => last
  | x :: l => lastOf (nm x) l

theorem lastOf_snoc (last : List UInt8) (l : List Sn) (x : Sn) : lastOf last (l ++ [x]) = nm x := by
  induction l generalizing last with
  | nil => rfl
  | cons y l ih => exact ih _

theorem chain_snoc (c : Int) (last : List UInt8) (l : List Sn) (x : Sn) : chain c last (l ++ [x]) = (chain c last l && snapOk c (lastOf last l) x) := by
  induction l generalizing last with
  | nil => simp [chain, lastOf]
  | cons y l ih =>
    rw [List.cons_append]
    simp only [chain, lastOf]
    rw [ih, Bool.and_assoc]

theorem less_nil (l : List UInt8) : Op.bytesLess l [] = false := by cases l <;> rfl
theorem nil_less (l : List UInt8) : Op.bytesLess [] l = decide (1 ≤ l.length) := by
  cases l with
  | nil => rfl
  | cons x l => simp [Op.bytesLess]

/-- may the k-th name be? -/
def nameOk (names : List ByteArray) (k : Nat) : Bool :=
  decide (1 ≤ (names.getD k ByteArray.empty).size) && decide ((names.getD k ByteArray.empty).size ≤ 18) && (k == 0 || Op.bytesLess (names.getD (k - 1) ByteArray.empty).data.toList (names.getD k ByteArray.empty).data.toList)
def okN (names : List ByteArray) : Nat → Bool
  | 0 => true
  | k + 1 => okN names k && nameOk names k

theorem lastOf_snaps (names : List ByteArray) (k : Nat) : lastOf [] (snapsOf names k) = if k = 0 then [] else (names.getD (k - 1) ByteArray.empty).data.toList := by
  cases k with
  | zero => rfl
  | succ k => rw [snapsOf_succ, lastOf_snoc, if_neg (by omega)]; rfl

theorem chain_snaps (names : List ByteArray) : ∀ k, chain 3 [] (snapsOf names k) = okN names k
  | 0 => rfl
  | k + 1 => by
    rw [snapsOf_succ, chain_snoc, chain_snaps names k, lastOf_snaps]
    have h : snapOk 3 (if k = 0 then [] else (names.getD (k - 1) ByteArray.empty).data.toList) ⟨names.getD k ByteArray.empty, 0, ((k % 4 : Nat) : Int)⟩ = nameOk names k := by
      obtain ⟨x, hx⟩ : ∃ x, x = names.getD k ByteArray.empty := ⟨_, rfl⟩
      have hl : x.data.toList.length = x.size := by rw [Array.length_toList]; rfl
      have hr : rootB 0 = true := by decide
      have hw : within ((k % 4 : Nat) : Int) 0 3 = true := by rw [within_iff]; omega
      unfold snapOk nameOk
      simp only [nm, ← hx, hr, hw, Bool.and_true]
      rw [hl]
      by_cases h0 : k = 0
      · subst h0
        rw [if_pos rfl, nil_less, hl]
        simp [Bool.and_comm]
      · rw [if_neg h0]
        have hk : (k == 0) = false := by rw [beq_eq_false_iff_ne]; exact h0
        rw [hk, Bool.false_or]
        by_cases h1 : 1 ≤ x.size
        · simp [h1]
        · have hn : x.data.toList = [] := List.eq_nil_of_length_eq_zero (by omega)
          rw [hn, less_nil]
          simp
    rw [h]
    rfl

theorem right_snaps (names : List ByteArray) (k : Nat) : right ⟨7, 9, 5, 3, snapsOf names k⟩ = (decide (k ≤ 8) && okN names k) := by
  unfold right
  simp only [snapsOf_length, chain_snaps]
  have h1 : within 7 1 281474976710655 = true := by decide
  have h2 : rootB 9 = true := by decide
  have h3 : within 5 2 1073741824 = true := by decide
  have h4 : within 3 0 281474976710655 = true := by decide
  rw [h1, h2, h3, h4]
  simp

theorem okN_take {names : List ByteArray} (h : 8 < names.length) (k : Nat) (hk : k = min names.length 10) : right ⟨7, 9, 5, 3, snapsOf names k⟩ = false := by
  rw [right_snaps, decide_eq_false (by omega)]; rfl
end Sp
end Go.Proofs.Yteogkgjajhdhjaa
