/-
  Masks of whole numbers, as the walk writes them. No condition.
-/
import Derived.WalkKit
namespace Go.Proofs.YtbmbjedpeepnfaaDoor
open Go.RowKit

theorem and_mask (x : Int) (k : Nat) (hk : k ≤ 62) : bits BinOp.and IntKind.i64 x ((2 ^ k - 1 : Nat) : Int) = x % ((2 ^ k : Nat) : Int) := by
  have hp : 2 ^ k ≤ 2 ^ 62 := Nat.pow_le_pow_right (by omega) hk
  have h1 : 0 < 2 ^ k := Nat.two_pow_pos k
  have h2 : (BitVec.ofInt 64 ((2 ^ k - 1 : Nat) : Int)).toNat = 2 ^ k - 1 := by
    rw [BitVec.toNat_ofInt]
    have : ((2 ^ k - 1 : Nat) : Int) % ((2 ^ 64 : Nat) : Int) = ((2 ^ k - 1 : Nat) : Int) := Int.emod_eq_of_lt (by omega) (by omega)
    rw [this, Int.toNat_natCast]
  have h3 : ((BitVec.ofInt 64 x &&& BitVec.ofInt 64 ((2 ^ k - 1 : Nat) : Int)).toNat : Int) = x % ((2 ^ k : Nat) : Int) := by
    rw [BitVec.toNat_and, h2, Nat.and_two_pow_sub_one_eq_mod, BitVec.toNat_ofInt]
    have hn : (0 : Int) ≤ x % ((2 ^ 64 : Nat) : Int) := Int.emod_nonneg _ (by decide)
    rw [Int.natCast_emod, Int.toNat_of_nonneg hn]
    have hd : ((2 ^ k : Nat) : Int) ∣ ((2 ^ 64 : Nat) : Int) := by
      rw [Int.natCast_dvd_natCast]; exact Nat.pow_dvd_pow 2 (by omega)
    exact Int.emod_emod_of_dvd x hd
  have hm0 := Int.emod_nonneg x (show ((2 ^ k : Nat) : Int) ≠ 0 by omega)
  have hm1 := Int.emod_lt_of_pos x (show (0 : Int) < ((2 ^ k : Nat) : Int) by omega)
  show IntKind.i64.wrap ((BitVec.ofInt 64 x &&& BitVec.ofInt 64 ((2 ^ k - 1 : Nat) : Int)).toNat : Int) = _
  rw [h3]
  exact IntWalk.i64_in _ (by omega)

theorem mask_nat (x : Int) (k : Nat) (hk : k ≤ 62) : ∃ m : Nat, bits BinOp.and IntKind.i64 x ((2 ^ k - 1 : Nat) : Int) = (m : Int) ∧ m < 2 ^ k ∧ (m : Int) = x % ((2 ^ k : Nat) : Int) := by
  have h1 : 0 < 2 ^ k := Nat.two_pow_pos k
  have hm0 := Int.emod_nonneg x (show ((2 ^ k : Nat) : Int) ≠ 0 by omega)
  have hm1 := Int.emod_lt_of_pos x (show (0 : Int) < ((2 ^ k : Nat) : Int) by omega)
  refine ⟨(x % ((2 ^ k : Nat) : Int)).toNat, ?_, by omega, by omega⟩
  rw [and_mask x k hk]; omega

theorem mask10 (x : Int) : ∃ m : Nat, bits BinOp.and IntKind.i64 x 1023 = (m : Int) ∧ m ≤ 1023 ∧ (m : Int) = x % 1024 := by
  obtain ⟨m, h1, h2, h3⟩ := mask_nat x 10 (by omega)
  exact ⟨m, h1, by omega, h3⟩
theorem mask12 (x : Int) : ∃ m : Nat, bits BinOp.and IntKind.i64 x 4095 = (m : Int) ∧ m ≤ 4095 ∧ (m : Int) = x % 4096 := by
  obtain ⟨m, h1, h2, h3⟩ := mask_nat x 12 (by omega)
  exact ⟨m, h1, by omega, h3⟩
theorem mask8 (x : Int) : ∃ m : Nat, bits BinOp.and IntKind.i64 x 255 = (m : Int) ∧ m ≤ 255 ∧ (m : Int) = x % 256 := by
  obtain ⟨m, h1, h2, h3⟩ := mask_nat x 8 (by omega)
  exact ⟨m, h1, by omega, h3⟩
theorem mask2 (x : Int) : ∃ m : Nat, bits BinOp.and IntKind.i64 x 3 = (m : Int) ∧ m ≤ 3 ∧ (m : Int) = x % 4 := by
  obtain ⟨m, h1, h2, h3⟩ := mask_nat x 2 (by omega)
  exact ⟨m, h1, by omega, h3⟩
theorem mask9 (x : Int) : ∃ m : Nat, bits BinOp.and IntKind.i64 x 511 = (m : Int) ∧ m ≤ 511 ∧ (m : Int) = x % 512 := by
  obtain ⟨m, h1, h2, h3⟩ := mask_nat x 9 (by omega)
  exact ⟨m, h1, by omega, h3⟩
theorem mask16 (x : Int) : ∃ m : Nat, bits BinOp.and IntKind.i64 x 65535 = (m : Int) ∧ m ≤ 65535 ∧ (m : Int) = x % 65536 := by
  obtain ⟨m, h1, h2, h3⟩ := mask_nat x 16 (by omega)
  exact ⟨m, h1, by omega, h3⟩
theorem mask24 (x : Int) : ∃ m : Nat, bits BinOp.and IntKind.i64 x 16777215 = (m : Int) ∧ m ≤ 16777215 ∧ (m : Int) = x % 16777216 := by
  obtain ⟨m, h1, h2, h3⟩ := mask_nat x 24 (by omega)
  exact ⟨m, h1, by omega, h3⟩
theorem mask32 (x : Int) : ∃ m : Nat, bits BinOp.and IntKind.i64 x 4294967295 = (m : Int) ∧ m ≤ 4294967295 ∧ (m : Int) = x % 4294967296 := by
  obtain ⟨m, h1, h2, h3⟩ := mask_nat x 32 (by omega)
  exact ⟨m, h1, by omega, h3⟩
end Go.Proofs.YtbmbjedpeepnfaaDoor
