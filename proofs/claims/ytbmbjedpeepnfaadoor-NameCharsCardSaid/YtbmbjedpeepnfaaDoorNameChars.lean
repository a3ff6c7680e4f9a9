/-
  NameChars: a text of one character is a name just if that may be in one: the law returns true, for any number. No condition.
-/
import Derived.Test.YtbmbjedpeepnfaaDoorNmLaw
import Derived.Test.YtbmbjedpeepnfaaDoorNmH
import Derived.Test.YtbmbjedpeepnfaaDoorNmG
import Derived.Test.YtbmbjedpeepnfaaDoorArith
namespace Go.Proofs.YtbmbjedpeepnfaaDoor
open Go.RowKit

theorem and_mask32 (x : Int) (k : Nat) (hk : k ≤ 31) (_h0 : 0 ≤ x) (_h1 : x ≤ 4294967295) : bits BinOp.and IntKind.u32 x ((2 ^ k - 1 : Nat) : Int) = x % ((2 ^ k : Nat) : Int) := by
  have hp : 2 ^ k ≤ 2 ^ 31 := Nat.pow_le_pow_right (by omega) hk
  have h2p : 0 < 2 ^ k := Nat.two_pow_pos k
  have h2 : (BitVec.ofInt 32 ((2 ^ k - 1 : Nat) : Int)).toNat = 2 ^ k - 1 := by
    rw [BitVec.toNat_ofInt]
    have : ((2 ^ k - 1 : Nat) : Int) % ((2 ^ 32 : Nat) : Int) = ((2 ^ k - 1 : Nat) : Int) := Int.emod_eq_of_lt (by omega) (by omega)
    rw [this, Int.toNat_natCast]
  have h3 : ((BitVec.ofInt 32 x &&& BitVec.ofInt 32 ((2 ^ k - 1 : Nat) : Int)).toNat : Int) = x % ((2 ^ k : Nat) : Int) := by
    rw [BitVec.toNat_and, h2, Nat.and_two_pow_sub_one_eq_mod, BitVec.toNat_ofInt]
    have hn : (0 : Int) ≤ x % ((2 ^ 32 : Nat) : Int) := Int.emod_nonneg _ (by decide)
    rw [Int.natCast_emod, Int.toNat_of_nonneg hn]
    have hd : ((2 ^ k : Nat) : Int) ∣ ((2 ^ 32 : Nat) : Int) := by
      rw [Int.natCast_dvd_natCast]; exact Nat.pow_dvd_pow 2 (by omega)
    exact Int.emod_emod_of_dvd x hd
  have hm0 := Int.emod_nonneg x (show ((2 ^ k : Nat) : Int) ≠ 0 by omega)
  have hm1 := Int.emod_lt_of_pos x (show (0 : Int) < ((2 ^ k : Nat) : Int) by omega)
  show IntKind.u32.wrap ((BitVec.ofInt 32 x &&& BitVec.ofInt 32 ((2 ^ k - 1 : Nat) : Int)).toNat : Int) = _
  rw [h3]
  show (x % ((2 ^ k : Nat) : Int)) % 4294967296 = _
  exact Int.emod_eq_of_lt hm0 (by omega)

/-- the six low bits -/
theorem low6 (n : Nat) (h : n < 4294967296) : ∃ d : Nat, bits BinOp.and IntKind.u32 (n : Int) 63 = (d : Int) ∧ d < 64 ∧ d = n % 64 := by
  refine ⟨n % 64, ?_, by omega, rfl⟩
  have := and_mask32 (n : Int) 6 (by decide) (by omega) (by omega)
  rw [show (((2 ^ 6 - 1 : Nat) : Nat) : Int) = 63 from rfl, show (((2 ^ 6 : Nat) : Nat) : Int) = 64 from rfl] at this
  rw [this]; omega

theorem lit_str (w : World) (l : List UInt8) : (convert 48 9 (.slice (some ⟨w.heap.size, 0, none⟩) l.length l.length)).run Tryd.prog (w.alloc (.cells (bv l).toArray 5)) = .ok (.string (Nm.tx l)) (w.alloc (.cells (bv l).toArray 5)) := by
  refine conv_str ⟨by simp [bv], some ⟨w.heap.size, 0, none⟩, l.length, rfl, Nat.le_refl _, (fun h => by cases h), fun a ha j u hu => ?_⟩
  cases ha
  have e : (⟨w.heap.size, 0, none⟩ : Addr).add j = ⟨w.heap.size, j, none⟩ := by
    unfold Addr.add
    split
    · rename_i h; subst h; rfl
    · simp
  rw [e, (Blk.new' w (bv l) 5).cell j]
  exact hu

theorem of_nat (n : Nat) (h : n < 256) : (UInt8.ofNat n).toNat = n := by simp; omega

set_option maxRecDepth 100000 in
set_option maxHeartbeats 3200000 in
theorem nameChars_walk (c : Int) (w : World) (T : Tabs w) (c0 : 0 ≤ c) (c1 : c ≤ 4294967295) :
    Calls Tryd.prog 6 #[.int .u32 c] w fun e w' => e = .returned (.bool true) ∧ Keep [] w w' := by
  have HT := Lib.hid T
  clear T
  go_enter Tryd.func6, Tryd.ntmps6
  go_wp2_with fail
  refine (shown_any w HT.out).mono ?_
  rintro e w1 ⟨rfl, k1⟩
  obtain ⟨m, hm, hm21⟩ : ∃ m : Nat, bits .and .u32 c 2097151 = (m : Int) ∧ m < 2097152 := by
    have := and_mask32 c 21 (by decide) c0 c1
    rw [show (((2 ^ 21 - 1 : Nat) : Nat) : Int) = 2097151 from rfl, show (((2 ^ 21 : Nat) : Nat) : Int) = 2097152 from rfl] at this
    exact ⟨(c % 2097152).toNat, by rw [this]; omega, by omega⟩
  obtain ⟨M, hM⟩ : ∃ M : Int, M = (m : Int) := ⟨_, rfl⟩
  rw [← hM] at hm
  have hM0 : 0 ≤ M := by omega
  have HM := Lib.hid hM
  clear hM
  by_cases h1 : m < 128
  · have h1I : M < 128 := by have := HM.out; omega
    obtain ⟨b, hb⟩ : ∃ b : UInt8, b = UInt8.ofNat m := ⟨_, rfl⟩
    have hbm : b.toNat = m := by rw [hb]; exact of_nat m (by omega)
    have hcv : ∀ z : Int, z = M → (convert 48 9 (.slice (some ⟨w1.heap.size, 0, none⟩) 1 1)).run Tryd.prog (w1.alloc (.cells #[.int .u8 z] 5)) = .ok (.string (Nm.tx [b])) (w1.alloc (.cells #[.int .u8 z] 5)) := fun z hz => by
      have := lit_str w1 [b]
      rw [show bv [b] = [Value.int .u8 z] by simp [bv, hbm, hz, HM.out]] at this
      exact this
    obtain ⟨hr, hc⟩ := Nm.char1 b (by omega)
    rw [hbm] at hr
    obtain ⟨S, hS⟩ : ∃ S, S = Nm.tx [b] := ⟨_, rfl⟩
    have hSz : S.size = 1 := by rw [hS]; rfl
    rw [← hS] at hcv hr hc
    have KA : ∀ z : Int, Keep [] w (w1.alloc (.cells #[Value.int .u8 z] 5)) := fun z => k1.alloc _
    have HCV := Lib.hid hcv
    clear hcv
    have HRR := Lib.hid hr
    have HCC := Lib.hid hc
    clear hb hbm hS hr hc k1
    have hcase : m < 32 ∨ m = 127 ∨ m = 47 ∨ m = 46 ∨ (32 ≤ m ∧ m ≠ 127 ∧ m ≠ 47 ∧ m ≠ 46) := by omega
    rcases hcase with h | h | h | h | ⟨ha, hb, hc, hd⟩
    · have hI : ¬ (32 : Int) ≤ M := by have := HM.out; omega
      have hcv := HCV.out M rfl
      replace KA := KA M
      have hR : Nm.right S = false := by rw [HRR.out, decide_eq_false_iff_not]; omega
      have hC : Lib.runeCount S = 1 := HCC.out
      have HR := Lib.hid hR
      have HC := Lib.hid hC
      clear hR hC
      go_wp2_with fail
      refine (right_any S _ (by omega) (HT.out.step KA)).mono ?_
      rintro e w2 ⟨rfl, k2⟩
      rw [HR.out]
      have K2 := KA.trans k2 (by simp)
      go_wp2_with fail
      refine (width_any S _ (by omega)).mono ?_
      rintro e w3 ⟨rfl, k3⟩
      rw [HC.out]
      go_wp2
      go_ret
      exact ⟨by simp, K2.trans k3 (by simp)⟩
    · obtain rfl : M = 127 := by have := HM.out; omega
      have hcv := HCV.out 127 rfl
      replace KA := KA 127
      have hR : Nm.right S = false := by rw [HRR.out, decide_eq_false_iff_not]; omega
      have hC : Lib.runeCount S = 1 := HCC.out
      have HR := Lib.hid hR
      have HC := Lib.hid hC
      clear hR hC
      go_wp2_with fail
      refine (right_any S _ (by omega) (HT.out.step KA)).mono ?_
      rintro e w2 ⟨rfl, k2⟩
      rw [HR.out]
      have K2 := KA.trans k2 (by simp)
      go_wp2_with fail
      refine (width_any S _ (by omega)).mono ?_
      rintro e w3 ⟨rfl, k3⟩
      rw [HC.out]
      go_wp2
      go_ret
      exact ⟨by simp, K2.trans k3 (by simp)⟩
    · obtain rfl : M = 47 := by have := HM.out; omega
      have hcv := HCV.out 47 rfl
      replace KA := KA 47
      have hR : Nm.right S = false := by rw [HRR.out, decide_eq_false_iff_not]; omega
      have hC : Lib.runeCount S = 1 := HCC.out
      have HR := Lib.hid hR
      have HC := Lib.hid hC
      clear hR hC
      go_wp2_with fail
      refine (right_any S _ (by omega) (HT.out.step KA)).mono ?_
      rintro e w2 ⟨rfl, k2⟩
      rw [HR.out]
      have K2 := KA.trans k2 (by simp)
      go_wp2_with fail
      refine (width_any S _ (by omega)).mono ?_
      rintro e w3 ⟨rfl, k3⟩
      rw [HC.out]
      go_wp2
      go_ret
      exact ⟨by simp, K2.trans k3 (by simp)⟩
    · obtain rfl : M = 46 := by have := HM.out; omega
      have hcv := HCV.out 46 rfl
      replace KA := KA 46
      have hR : Nm.right S = false := by rw [HRR.out, decide_eq_false_iff_not]; omega
      have hC : Lib.runeCount S = 1 := HCC.out
      have HR := Lib.hid hR
      have HC := Lib.hid hC
      clear hR hC
      go_wp2_with fail
      refine (right_any S _ (by omega) (HT.out.step KA)).mono ?_
      rintro e w2 ⟨rfl, k2⟩
      rw [HR.out]
      have K2 := KA.trans k2 (by simp)
      go_wp2_with fail
      refine (width_any S _ (by omega)).mono ?_
      rintro e w3 ⟨rfl, k3⟩
      rw [HC.out]
      go_wp2
      go_ret
      exact ⟨by simp, K2.trans k3 (by simp)⟩
    · have i1 : (32 : Int) ≤ M := by have := HM.out; omega
      have hcv := HCV.out M rfl
      replace KA := KA M
      have i2 : ¬ M = 127 := by have := HM.out; omega
      have i3 : ¬ M = 47 := by have := HM.out; omega
      have i4 : ¬ M = 46 := by have := HM.out; omega
      have i5 : (M != 127) = true := by simp [i2]
      have i6 : (M != 47) = true := by simp [i3]
      have i7 : (M != 46) = true := by simp [i4]
      have hR : Nm.right S = true := by rw [HRR.out, decide_eq_true_eq]; omega
      have hC : Lib.runeCount S = 1 := HCC.out
      have HR := Lib.hid hR
      have HC := Lib.hid hC
      clear hR hC
      go_wp2_with fail
      refine (right_any S _ (by omega) (HT.out.step KA)).mono ?_
      rintro e w2 ⟨rfl, k2⟩
      rw [HR.out]
      have K2 := KA.trans k2 (by simp)
      go_wp2_with fail
      refine (width_any S _ (by omega)).mono ?_
      rintro e w3 ⟨rfl, k3⟩
      rw [HC.out]
      go_wp2
      go_ret
      exact ⟨by simp, K2.trans k3 (by simp)⟩
  · have h1I : ¬ M < 128 := by have := HM.out; omega
    obtain ⟨d0, hd0, hd64, hdm⟩ := low6 m (by omega)
    rw [← HM.out] at hd0
    by_cases h2 : m < 2048
    · have h2I : M < 2048 := by have := HM.out; omega
      have hsh : M / 64 = ((m / 64 : Nat) : Int) := by have := HM.out; omega
      obtain ⟨b0, hb0⟩ : ∃ b : UInt8, b = UInt8.ofNat (192 + m / 64) := ⟨_, rfl⟩
      obtain ⟨b1, hb1⟩ : ∃ b : UInt8, b = UInt8.ofNat (128 + d0) := ⟨_, rfl⟩
      have hbm0 : b0.toNat = 192 + m / 64 := by rw [hb0]; exact of_nat _ (by omega)
      have hbm1 : b1.toNat = 128 + d0 := by rw [hb1]; exact of_nat _ (by omega)
      have hcv : (convert 48 9 (.slice (some ⟨w1.heap.size, 0, none⟩) 2 2)).run Tryd.prog (w1.alloc (.cells #[Value.int .u8 (192 + M / 64), Value.int .u8 (128 + (d0 : Int))] 5)) = .ok (.string (Nm.tx [b0, b1])) (w1.alloc (.cells #[Value.int .u8 (192 + M / 64), Value.int .u8 (128 + (d0 : Int))] 5)) := by
        have := lit_str w1 [b0, b1]
        rw [show bv [b0, b1] = [Value.int .u8 (192 + M / 64), Value.int .u8 (128 + (d0 : Int))] by simp [bv, hbm0, hbm1, HM.out]] at this
        exact this
      obtain ⟨hr, hc⟩ := Nm.char2 b0 b1 m hbm0 (by omega) (by omega) h2
      obtain ⟨S, hS⟩ : ∃ S, S = Nm.tx [b0, b1] := ⟨_, rfl⟩
      have hSz : S.size = 2 := by rw [hS]; rfl
      rw [← hS] at hcv hr hc
      have KA : Keep [] w (w1.alloc (.cells #[Value.int .u8 (192 + M / 64), Value.int .u8 (128 + (d0 : Int))] 5)) := k1.alloc _
      have HRR := Lib.hid hr
      have HCC := Lib.hid hc
      clear hb0 hb1 hbm0 hbm1 hS hr hc k1 hdm hsh
      have hR : Nm.right S = true := HRR.out
      have hC : Lib.runeCount S = 1 := HCC.out
      have HR := Lib.hid hR
      have HC := Lib.hid hC
      clear hR hC
      go_upto_region 15 with fail
      have hwI : M < 55296 := by have := HM.out; omega
      go_wp2_with fail
      refine (right_any S _ (by omega) (HT.out.step KA)).mono ?_
      rintro e w2 ⟨rfl, k2⟩
      rw [HR.out]
      have K2 := KA.trans k2 (by simp)
      go_wp2_with fail
      refine (width_any S _ (by omega)).mono ?_
      rintro e w3 ⟨rfl, k3⟩
      rw [HC.out]
      go_wp2
      go_ret
      exact ⟨by simp, K2.trans k3 (by simp)⟩
    · have h2I : ¬ M < 2048 := by have := HM.out; omega
      obtain ⟨d1, hd1, hd164, hd1m⟩ := low6 (m / 64) (by omega)
      rw [show ((m / 64 : Nat) : Int) = M / 64 by have := HM.out; omega] at hd1
      by_cases h3 : m < 65536
      · have h3I : M < 65536 := by have := HM.out; omega
        obtain ⟨b0, hb0⟩ : ∃ b : UInt8, b = UInt8.ofNat (224 + m / 4096) := ⟨_, rfl⟩
        obtain ⟨b1, hb1⟩ : ∃ b : UInt8, b = UInt8.ofNat (128 + d1) := ⟨_, rfl⟩
        obtain ⟨b2, hb2⟩ : ∃ b : UInt8, b = UInt8.ofNat (128 + d0) := ⟨_, rfl⟩
        have hbm0 : b0.toNat = 224 + m / 4096 := by rw [hb0]; exact of_nat _ (by omega)
        have hbm1 : b1.toNat = 128 + d1 := by rw [hb1]; exact of_nat _ (by omega)
        have hbm2 : b2.toNat = 128 + d0 := by rw [hb2]; exact of_nat _ (by omega)
        have hcv : (convert 48 9 (.slice (some ⟨w1.heap.size, 0, none⟩) 3 3)).run Tryd.prog (w1.alloc (.cells #[Value.int .u8 (224 + M / 4096), Value.int .u8 (128 + (d1 : Int)), Value.int .u8 (128 + (d0 : Int))] 5)) = .ok (.string (Nm.tx [b0, b1, b2])) (w1.alloc (.cells #[Value.int .u8 (224 + M / 4096), Value.int .u8 (128 + (d1 : Int)), Value.int .u8 (128 + (d0 : Int))] 5)) := by
          have := lit_str w1 [b0, b1, b2]
          rw [show bv [b0, b1, b2] = [Value.int .u8 (224 + M / 4096), Value.int .u8 (128 + (d1 : Int)), Value.int .u8 (128 + (d0 : Int))] by simp [bv, hbm0, hbm1, hbm2, HM.out]] at this
          exact this
        obtain ⟨hr, hc⟩ := Nm.char3 b0 b1 b2 m hbm0 (by omega) (by omega) (by omega) h3
        obtain ⟨S, hS⟩ : ∃ S, S = Nm.tx [b0, b1, b2] := ⟨_, rfl⟩
        have hSz : S.size = 3 := by rw [hS]; rfl
        rw [← hS] at hcv hr hc
        have KA : Keep [] w (w1.alloc (.cells #[Value.int .u8 (224 + M / 4096), Value.int .u8 (128 + (d1 : Int)), Value.int .u8 (128 + (d0 : Int))] 5)) := k1.alloc _
        have HRR := Lib.hid hr
        have HCC := Lib.hid hc
        clear hb0 hb1 hb2 hbm0 hbm1 hbm2 hS hr hc k1 hdm hd1m
        have hcase : m < 55296 ∨ (¬ m < 55296 ∧ 57343 < m) ∨ (¬ m < 55296 ∧ ¬ 57343 < m) := by omega
        rcases hcase with h | ⟨ha, hb⟩ | ⟨ha, hb⟩
        · skip
          have hdc : decide (m < 55296 ∨ 57343 < m) = true := by rw [decide_eq_true_eq]; omega
          have HD := Lib.hid hdc
          clear hdc
          have hR : Nm.right S = true := by rw [HRR.out, HD.out]
          have hC : Lib.runeCount S = 1 := by rw [HCC.out, HD.out]; rfl
          have HR := Lib.hid hR
          have HC := Lib.hid hC
          clear hR hC
          go_upto_region 12 with fail
          have i1 : M < 55296 := by have := HM.out; omega
          go_wp2_with fail
          refine (right_any S _ (by omega) (HT.out.step KA)).mono ?_
          rintro e w2 ⟨rfl, k2⟩
          rw [HR.out]
          have K2 := KA.trans k2 (by simp)
          go_wp2_with fail
          refine (width_any S _ (by omega)).mono ?_
          rintro e w3 ⟨rfl, k3⟩
          rw [HC.out]
          go_wp2
          go_ret
          exact ⟨by simp, K2.trans k3 (by simp)⟩
        · skip
          have hdc : decide (m < 55296 ∨ 57343 < m) = true := by rw [decide_eq_true_eq]; omega
          have HD := Lib.hid hdc
          clear hdc
          have hR : Nm.right S = true := by rw [HRR.out, HD.out]
          have hC : Lib.runeCount S = 1 := by rw [HCC.out, HD.out]; rfl
          have HR := Lib.hid hR
          have HC := Lib.hid hC
          clear hR hC
          go_upto_region 12 with fail
          have i1 : ¬ M < 55296 := by have := HM.out; omega
          have i2 : (57343 : Int) < M := by have := HM.out; omega
          have i3 : M ≤ 1114111 := by have := HM.out; omega
          go_wp2_with fail
          refine (right_any S _ (by omega) (HT.out.step KA)).mono ?_
          rintro e w2 ⟨rfl, k2⟩
          rw [HR.out]
          have K2 := KA.trans k2 (by simp)
          go_wp2_with fail
          refine (width_any S _ (by omega)).mono ?_
          rintro e w3 ⟨rfl, k3⟩
          rw [HC.out]
          go_wp2
          go_ret
          exact ⟨by simp, K2.trans k3 (by simp)⟩
        · skip
          have hdc : decide (m < 55296 ∨ 57343 < m) = false := by rw [decide_eq_false_iff_not]; omega
          have HD := Lib.hid hdc
          clear hdc
          have hR : Nm.right S = false := by rw [HRR.out, HD.out]
          have hC : Lib.runeCount S = 3 := by rw [HCC.out, HD.out]; rfl
          have HR := Lib.hid hR
          have HC := Lib.hid hC
          clear hR hC
          go_upto_region 12 with fail
          have i1 : ¬ M < 55296 := by have := HM.out; omega
          have i2 : ¬ (57343 : Int) < M := by have := HM.out; omega
          go_wp2_with fail
          refine (right_any S _ (by omega) (HT.out.step KA)).mono ?_
          rintro e w2 ⟨rfl, k2⟩
          rw [HR.out]
          have K2 := KA.trans k2 (by simp)
          go_wp2_with fail
          refine (width_any S _ (by omega)).mono ?_
          rintro e w3 ⟨rfl, k3⟩
          rw [HC.out]
          go_wp2
          go_ret
          exact ⟨by simp, K2.trans k3 (by simp)⟩
      · have h3I : ¬ M < 65536 := by have := HM.out; omega
        obtain ⟨d2, hd2, hd264, hd2m⟩ := low6 (m / 4096) (by omega)
        rw [show ((m / 4096 : Nat) : Int) = M / 4096 by have := HM.out; omega] at hd2
        have hm21I : M < 2097152 := by have := HM.out; omega
        obtain ⟨b0, hb0⟩ : ∃ b : UInt8, b = UInt8.ofNat (240 + m / 262144) := ⟨_, rfl⟩
        obtain ⟨b1, hb1⟩ : ∃ b : UInt8, b = UInt8.ofNat (128 + d2) := ⟨_, rfl⟩
        obtain ⟨b2, hb2⟩ : ∃ b : UInt8, b = UInt8.ofNat (128 + d1) := ⟨_, rfl⟩
        obtain ⟨b3, hb3⟩ : ∃ b : UInt8, b = UInt8.ofNat (128 + d0) := ⟨_, rfl⟩
        have hbm0 : b0.toNat = 240 + m / 262144 := by rw [hb0]; exact of_nat _ (by omega)
        have hbm1 : b1.toNat = 128 + d2 := by rw [hb1]; exact of_nat _ (by omega)
        have hbm2 : b2.toNat = 128 + d1 := by rw [hb2]; exact of_nat _ (by omega)
        have hbm3 : b3.toNat = 128 + d0 := by rw [hb3]; exact of_nat _ (by omega)
        have hcv : (convert 48 9 (.slice (some ⟨w1.heap.size, 0, none⟩) 4 4)).run Tryd.prog (w1.alloc (.cells #[Value.int .u8 (240 + M / 262144), Value.int .u8 (128 + (d2 : Int)), Value.int .u8 (128 + (d1 : Int)), Value.int .u8 (128 + (d0 : Int))] 5)) = .ok (.string (Nm.tx [b0, b1, b2, b3])) (w1.alloc (.cells #[Value.int .u8 (240 + M / 262144), Value.int .u8 (128 + (d2 : Int)), Value.int .u8 (128 + (d1 : Int)), Value.int .u8 (128 + (d0 : Int))] 5)) := by
          have := lit_str w1 [b0, b1, b2, b3]
          rw [show bv [b0, b1, b2, b3] = [Value.int .u8 (240 + M / 262144), Value.int .u8 (128 + (d2 : Int)), Value.int .u8 (128 + (d1 : Int)), Value.int .u8 (128 + (d0 : Int))] by simp [bv, hbm0, hbm1, hbm2, hbm3, HM.out]] at this
          exact this
        obtain ⟨hr, hc⟩ := Nm.char4 b0 b1 b2 b3 m hbm0 (by omega) (by omega) (by omega) (by omega) hm21
        obtain ⟨S, hS⟩ : ∃ S, S = Nm.tx [b0, b1, b2, b3] := ⟨_, rfl⟩
        have hSz : S.size = 4 := by rw [hS]; rfl
        rw [← hS] at hcv hr hc
        have KA : Keep [] w (w1.alloc (.cells #[Value.int .u8 (240 + M / 262144), Value.int .u8 (128 + (d2 : Int)), Value.int .u8 (128 + (d1 : Int)), Value.int .u8 (128 + (d0 : Int))] 5)) := k1.alloc _
        have HRR := Lib.hid hr
        have HCC := Lib.hid hc
        clear hb0 hb1 hb2 hb3 hbm0 hbm1 hbm2 hbm3 hS hr hc k1 hdm hd1m hd2m
        by_cases hb : m ≤ 1114111
        · skip
          have hdc : decide (m ≤ 1114111) = true := by rw [decide_eq_true_eq]; omega
          have HD := Lib.hid hdc
          clear hdc
          have hR : Nm.right S = true := by rw [HRR.out, HD.out]
          have hC : Lib.runeCount S = 1 := by rw [HCC.out, HD.out]; rfl
          have HR := Lib.hid hR
          have HC := Lib.hid hC
          clear hR hC
          go_upto_region 14 with fail
          have i1 : ¬ M < 55296 := by have := HM.out; omega
          have i2 : (57343 : Int) < M := by have := HM.out; omega
          have i3 : M ≤ 1114111 := by have := HM.out; omega
          go_wp2_with fail
          refine (right_any S _ (by omega) (HT.out.step KA)).mono ?_
          rintro e w2 ⟨rfl, k2⟩
          rw [HR.out]
          have K2 := KA.trans k2 (by simp)
          go_wp2_with fail
          refine (width_any S _ (by omega)).mono ?_
          rintro e w3 ⟨rfl, k3⟩
          rw [HC.out]
          go_wp2
          go_ret
          exact ⟨by simp, K2.trans k3 (by simp)⟩
        · skip
          have hdc : decide (m ≤ 1114111) = false := by rw [decide_eq_false_iff_not]; omega
          have HD := Lib.hid hdc
          clear hdc
          have hR : Nm.right S = false := by rw [HRR.out, HD.out]
          have hC : Lib.runeCount S = 4 := by rw [HCC.out, HD.out]; rfl
          have HR := Lib.hid hR
          have HC := Lib.hid hC
          clear hR hC
          go_upto_region 14 with fail
          have i1 : ¬ M < 55296 := by have := HM.out; omega
          have i2 : (57343 : Int) < M := by have := HM.out; omega
          have i3 : ¬ M ≤ 1114111 := by have := HM.out; omega
          go_wp2_with fail
          refine (right_any S _ (by omega) (HT.out.step KA)).mono ?_
          rintro e w2 ⟨rfl, k2⟩
          rw [HR.out]
          have K2 := KA.trans k2 (by simp)
          go_wp2_with fail
          refine (width_any S _ (by omega)).mono ?_
          rintro e w3 ⟨rfl, k3⟩
          rw [HC.out]
          go_wp2
          go_ret
          exact ⟨by simp, K2.trans k3 (by simp)⟩

theorem wf_u32 {n : Int} (h : (Lit.int .u32 n).wf = true) : 0 ≤ n ∧ n ≤ 4294967295 := by
  simpa [Lit.wf, IntKind.min, IntKind.max, IntKind.signed, IntKind.bits] using h


theorem nameChars_readable : Tryd.f6.params.toList.all (fun t => Tryd.prog.readableRec t && decide (t < Tryd.prog.types.size)) = true := by kernel_rfl

open Go.ChangeShapes Go.WideShapes Go.ChangeAt in
set_option maxRecDepth 100000 in
theorem nameChars_contract (H : Type) (enc : TypeId × Value → H) (W : World) (base : Nat) (args : Array Value) (ds gs : List (DataW H)) (before : List MemPlace)
    (hval : ∀ (j : Nat) t v, Tryd.f6.params[j]? = some t → args[j]? = some v → Value.okWide Tryd.prog W .any base t v)
    (hW : DataW.Whole enc Tryd.prog Tryd.f6.params.toList Rows.nameCharsSpec.vars false W args.toList ds gs before) (hL : laidMetH Tryd.prog Rows.nameCharsRow.laid W) (hSh : W.ShapedOpen Tryd.prog) (hS : (DataW.weightsEach Tryd.prog (Tryd.f6.params.toList ++ Rows.nameCharsSpec.plain.varTypes Tryd.prog) (ds ++ gs)).all (· ≤ reachBytes) = true) :
    Calls Tryd.prog 6 args W fun e W' => ∃ v, e = .returned v ∧ Rows.nameCharsSpec.post enc Tryd.prog Tryd.f6 false true false false W args v W' := by
  have hW' := hW
  obtain ⟨p, q, hA0, hV, rfl, _, _⟩ := hW
  have hA : DataW.TrodAll enc Tryd.prog W 0 (fun _ => true) true Tryd.f6.params.toList args.toList ds p := hA0
  rw [Tryd.params6] at hA hval
  obtain ⟨v0, d0, rfl, rfl, h0⟩ := trodAll_one hA
  obtain ⟨rfl, rfl⟩ := trodVars_none hV
  obtain ⟨c, rfl, rfl, rfl, w0⟩ := open_int Tryd.underlying47 (hval 0 47 v0 rfl rfl) h0
  have hb := wf_u32 w0
  refine (nameChars_walk c W (tabs_of hL hSh) hb.1 hb.2).mono fun e W' ⟨he, hk⟩ => ?_
  have _u := hS
  subst he
  exact ⟨_, rfl, law_post Tryd.laidOut nameChars_readable rfl Tryd.underlying4 rfl hW' rfl hk.below0⟩

set_option maxRecDepth 100000 in
theorem nameChars_lifted (os : Os) (started : os.Started) (H : Type) (enc : TypeId × Value → H) :
    ReturnsInHanded {} Tryd.checked os 6 .any (fun w args => (Rows.nameCharsSpec.pre enc Tryd.prog Tryd.f6 Rows.nameCharsRow.domain false w args ∧ laidMetH Tryd.prog Rows.nameCharsRow.laid w) ∧ sizedMet enc Tryd.prog Tryd.f6 (OpenSpec.ofChange Rows.nameCharsSpec) false w args)
      (Rows.nameCharsSpec.post enc Tryd.prog Tryd.f6 false true false false) := by
  refine handed_and_shaped (C := Tryd.checked) (X := fun w _ => laidMetH Tryd.prog Rows.nameCharsRow.laid w) (fun _ _ _ hh h => h.of_heap hh) Tryd.own started (by kernel_rfl) Tryd.func6
    (ChangeSpec.witness_shaped (enc := enc) (C := Tryd.checked) (os := os) (X := fun w _ => laidMetH Tryd.prog Rows.nameCharsRow.laid w) false (World.laidAll Tryd.prog os Rows.nameCharsRow.laid) #[.int .u32 0] 8 (World.laidAll_os _ _ _)
      (World.shaped_of_ZipB (by kernel_rfl) (by kernel_rfl)) (by kernel_rfl) (by kernel_rfl) (by kernel_rfl)
      (by rw [MakeChecks.laidMetH_plain _ _ _ (by kernel_rfl)]; exact laidMet_laidAll _ (by kernel_rfl) (by kernel_rfl))) ?_
  intro W base args ds gs before hval hW _ hS hL hSh _
  exact nameChars_contract H enc W base args ds gs before hval hW hL hSh hS

theorem nameChars_row_holds : Rows.NameCharsSaid :=
  OpenClaim.holds_of_wide 6 Tryd.f6 rfl rfl rfl rfl rfl rfl rfl ⟨rfl, rfl, rfl, rfl, rfl⟩ rfl rfl rfl rfl rfl (by kernel_rfl) Tryd.func6 (by kernel_rfl)
    (of_decide_eq_true (by kernel_rfl)) (by unfold Func.isWrapper; first | (rw [if_pos (by decide +kernel)]; kernel_rfl) | (rw [if_neg (by decide +kernel)]; exact ⟨rfl, rfl⟩))
    (fun os started H enc _ => nameChars_lifted os started H enc)

theorem nameChars_holds : Rows.NameCharsCardSaid :=
  Claim7.holds_tied_plain_at .later [] [.data, .pinned] true (true, "284c49cd6a5ef03cb0b10374fb715a4f6b6efd2702ce299b808f79c75d858a0b") false nameChars_row_holds (fun _ h => by cases h) (by kernel_rfl) (fun _ h => by cases h) nameChars_row_tie rfl ⟨rfl, rfl⟩ (by kernel_rfl) rfl
    (fun f fn hf hfn => by
      obtain rfl : f = 6 := Option.some.inj ((show Tryd.prog.funcNamed "wainscot/wainscotlaw10.NameChars" = some 6 by kernel_rfl).symm.trans hf) |>.symm
      obtain rfl : fn = Tryd.f6 := (Option.some.inj (Tryd.func6.symm.trans hfn)).symm
      exact ⟨by kernel_rfl, fun j t ht => by
        have hm : t ∈ Tryd.f6.params.toList := by simpa using Array.mem_of_getElem? ht
        have hall : (Tryd.f6.params.toList.all fun u => !Tryd.prog.wantsStandIn u) = true := by kernel_rfl
        exact (show Tryd.prog.wantsStandIn t = false by simpa using List.all_eq_true.1 hall t hm)⟩)
    (by kernel_rfl)

#print axioms nameChars_holds
end Go.Proofs.YtbmbjedpeepnfaaDoor
