/-
  Layer 4: number of package super, at a reader's Long: a long number that numbers can hold, or -1. No condition but that it is a reader.
-/
import Derived.Test.YteogkgjajhdhjaaSuperC
namespace Go.Proofs.Yteogkgjajhdhjaa
open Go.RowKit

set_option maxRecDepth 100000 in
set_option maxHeartbeats 800000 in
theorem num_any (br : Nat) (v : Value) (st : Pk.Rd) (w : World) (h : IsR w br v st) :
    Calls Try.prog 75 #[.func (.func 32) #[.pointer (some ⟨br, 0, none⟩)] #[]] w fun e w' => e = .returned (.int .i64 (Sp.num (st.take 8))) ∧ ROut w w' br v (st.skip 8) := by
  obtain ⟨n, hn⟩ : ∃ n : Nat, n = Pk.rd (st.take 8) := ⟨_, rfl⟩
  obtain ⟨m, hm⟩ : ∃ m : Int, m = Sp.num (st.take 8) := ⟨_, rfl⟩
  have hlt : n < 18446744073709551616 := by
    rw [hn]
    have h1 := Pk.rd_lt (st.take 8)
    have h2 : (st.take 8).length ≤ 8 := by unfold Pk.Rd.take; split <;> simp; omega
    have h3 : 256 ^ (st.take 8).length ≤ 256 ^ 8 := Nat.pow_le_pow_right (by omega) h2
    omega
  have hmn : m = if n < 4611686018427387904 then (n : Int) else -1 := by rw [hm, hn]; rfl
  have HM := Lib.hid hmn
  have HN := Lib.hid hn
  rw [← hm]
  clear hn hm hmn
  by_cases hc : n < 4611686018427387904
  · have hs : ((n : Int) / 4611686018427387904 == 0) = true := by rw [beq_iff_eq]; omega
    go_enter Try.func75, Try.ntmps75
    go_wp2_with fail
    refine (rlong_any br v st w h).mono ?_
    rintro e w1 ⟨rfl, o⟩
    rw [← HN.out]
    go_wp2
    go_ret
    exact ⟨by rw [HM.out, if_pos hc]; rfl, o⟩
  · have hs : ((n : Int) / 4611686018427387904 == 0) = false := by rw [beq_eq_false_iff_ne]; omega
    go_enter Try.func75, Try.ntmps75
    go_wp2_with fail
    refine (rlong_any br v st w h).mono ?_
    rintro e w1 ⟨rfl, o⟩
    rw [← HN.out]
    go_wp2
    go_ret
    exact ⟨by rw [HM.out, if_neg hc]; rfl, o⟩
end Go.Proofs.Yteogkgjajhdhjaa
