/-
  Layer 4's document: Number: a number in so many bytes, the highest first. No condition but that it is none below 0.
-/
import Derived.Test.YteogkgjajhdhjaaSuperC
import Derived.Test.YteogkgjajhdhjaaPackG
namespace Go.Proofs.Yteogkgjajhdhjaa
open Go.RowKit

theorem txt_app (a b : List UInt8) : txt a ++ txt b = txt (a ++ b) := by
  apply ByteArray.ext
  simp [txt]

theorem be_front (v k : Nat) : Pk.be v (k + 1) = UInt8.ofNat (v / 256 ^ k) :: Pk.be v k := by
  induction k generalizing v with
  | zero => simp [Pk.be]
  | succ k ih =>
    rw [Pk.be, ih (v / 256), Pk.be, Nat.div_div_eq_div_mul, ← Nat.pow_succ']
    rfl

theorem rd_one_byte (w : World) (c : UInt8) : RdV (w.alloc (.cells #[.int .u8 (c.toNat : Int)] 5)) (.slice (some ⟨w.heap.size, 0, none⟩) 1 1) ([c] : List UInt8).length 1 (bv [c]) := by
  refine ⟨rfl, some ⟨w.heap.size, 0, none⟩, 1, rfl, Nat.le_refl _, (fun h => by cases h), fun a ha j u hu => ?_⟩
  cases ha
  exact World.news_of_block (cs := #[.int .u8 (c.toNat : Int)]) (t := 5) (fr := (0, 0)) (heap_alloc_new w _) j u hu

set_option maxRecDepth 100000 in
set_option maxHeartbeats 1600000 in
theorem knum_any (n : Int) (width : Nat) (w : World) (h0 : 0 ≤ n) (h1 : n ≤ 9223372036854775807) (hw : width ≤ 8) :
    Calls Try.prog 62 #[.int .i64 n, .int .i64 width] w fun e w' => e = .returned (.string (txt (Pk.be n.toNat width))) ∧ Keep [] w w' := by
  obtain ⟨v, rfl⟩ := Int.eq_ofNat_of_zero_le h0
  rw [Int.toNat_natCast]
  go_enter Try.func62, Try.ntmps62
  go_wp2_with fail
  go_loopw [0, 5, 6] (fun s0 s5 i wr => ∃ k : Nat, k ≤ width ∧ i = .int .i64 k ∧ s0 = .int .i64 ((v / 256 ^ k : Nat) : Int) ∧ s5 = .string (txt (Pk.be v k)) ∧ Keep [] w wr) (fun _ _ i _ => width - (intOf i).toNat)
  case atStart => exact ⟨0, Nat.zero_le _, rfl, by simp, rfl, Keep.refl _ _⟩
  case round =>
    obtain ⟨k, hk, rfl, rfl, rfl, K⟩ := hrel
    by_cases hlt : k < width
    · obtain ⟨m, hm⟩ : ∃ m, m = v / 256 ^ k := ⟨_, rfl⟩
      have hmv : m ≤ v := by rw [hm]; exact Nat.div_le_self _ _
      have hm2 : m / 256 = v / 256 ^ (k + 1) := by rw [hm, Nat.div_div_eq_div_mul, ← Nat.pow_succ]
      have hbe := be_front v k
      rw [← hm] at hbe ⊢
      have HBE := Lib.hid hbe
      have HM2 := Lib.hid hm2
      have hlb : (txt (Pk.be v k)).size = k := by rw [txt_len, Pk.be_length]
      have HLB := Lib.hid hlb
      obtain ⟨c, hc⟩ : ∃ c, c = UInt8.ofNat m := ⟨_, rfl⟩
      have hcm : (m : Int) % 256 = (c.toNat : Int) := by rw [hc]; simp
      have HC := Lib.hid hc
      have cv := conv_str (rd_one_byte wr c)
      have hcl := c.toNat_lt
      have hts : (txt [c]).size = 1 := rfl
      obtain ⟨T, hT⟩ : ∃ T, T = txt (Pk.be v k) := ⟨_, rfl⟩
      have HT := Lib.hid hT
      rw [← hT] at hlb ⊢
      have hTs : T.size ≤ 8 := by omega
      clear hbe hm2 hc hm hT hlb HLB
      go_wp2
      go_roundw
      case rel => exact ⟨k + 1, by omega, by go_num, by rw [← HM2.out]; go_num, by rw [HT.out, HBE.out, ← HC.out, txt_app]; rfl, K.alloc _⟩
      case measure => simp [intOf]; omega
    · obtain rfl : k = width := by omega
      go_wp2
      go_ret
      exact ⟨rfl, K⟩
theorem knum8_any (n : Int) (w : World) (h0 : 0 ≤ n) (h1 : n ≤ 9223372036854775807) : Calls Try.prog 62 #[.int .i64 n, .int .i64 8] w fun e w' => e = .returned (.string (txt (Pk.be n.toNat 8))) ∧ Keep [] w w' := knum_any n 8 w h0 h1 (by omega)
theorem knum4_any (n : Int) (w : World) (h0 : 0 ≤ n) (h1 : n ≤ 9223372036854775807) : Calls Try.prog 62 #[.int .i64 n, .int .i64 4] w fun e w' => e = .returned (.string (txt (Pk.be n.toNat 4))) ∧ Keep [] w w' := knum_any n 4 w h0 h1 (by omega)
theorem knum1_any (n : Int) (w : World) (h0 : 0 ≤ n) (h1 : n ≤ 9223372036854775807) : Calls Try.prog 62 #[.int .i64 n, .int .i64 1] w fun e w' => e = .returned (.string (txt (Pk.be n.toNat 1))) ∧ Keep [] w w' := knum_any n 1 w h0 h1 (by omega)
end Go.Proofs.Yteogkgjajhdhjaa
