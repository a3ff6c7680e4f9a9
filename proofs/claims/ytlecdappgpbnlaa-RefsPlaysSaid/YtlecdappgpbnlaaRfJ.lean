/-
  The document's Refs: Inc, Dec, Mark. No condition but that the receiver is one that New made, or a later one.
-/
import Derived.Test.YtlecdappgpbnlaaRfI
namespace Go.Proofs.Ytlecdappgpbnlaa
open Go.RowKit

section
variable (p : Nat) (v : Value) (f : Int → Int) (B n : Int) (w : World) (h : IsRR w p v f B)
include h

set_option maxRecDepth 100000 in
set_option maxHeartbeats 800000 in
theorem qinc_out (hn : n < 2 ∨ B ≤ n) : Calls Try.prog 32 #[.pointer (some ⟨p, 0, none⟩), .int .i64 n] w fun e w' => e = .returned (.int .i64 1) ∧ w = w' := by
  have ci := qis_any p v f B n w h false (by symm; rw [decide_eq_false_iff_not]; omega)
  clear hn h
  go_enter Try.func32, Try.ntmps32
  go_wp2_with fail
  refine ci.mono ?_
  rintro e w1 ⟨rfl, rfl⟩
  go_wp2
  go_ret
  exact ⟨rfl, rfl⟩

set_option maxRecDepth 100000 in
set_option maxHeartbeats 800000 in
theorem qinc_state (h2 : 2 ≤ n) (hB : n < B) (hz : f n = 0) : Calls Try.prog 32 #[.pointer (some ⟨p, 0, none⟩), .int .i64 n] w fun e w' => e = .returned (.int .i64 13) ∧ w = w' := by
  have ci := qis_any p v f B n w h true (by symm; rw [decide_eq_true_eq]; exact ⟨h2, hB⟩)
  have cc := qcount_any p v f B n w h
  rw [hz] at cc
  clear h h2 hB hz
  go_enter Try.func32, Try.ntmps32
  go_wp2_with fail
  refine ci.mono ?_
  rintro e w1 ⟨rfl, rfl⟩
  go_wp2_with fail
  refine cc.mono ?_
  rintro e w1 ⟨rfl, rfl⟩
  go_wp2
  go_ret
  exact ⟨rfl, rfl⟩

set_option maxRecDepth 100000 in
set_option maxHeartbeats 800000 in
theorem qinc_ok (h2 : 2 ≤ n) (hB : n < B) (hz : f n ≠ 0) (hf : f n < 9223372036854775807) : Calls Try.prog 32 #[.pointer (some ⟨p, 0, none⟩), .int .i64 n] w fun e w' => e = .returned (.int .i64 0) ∧ QLeft w w' p (Rf.upd f n (f n + 1)) B := by
  have ci := qis_any p v f B n w h true (by symm; rw [decide_eq_true_eq]; exact ⟨h2, hB⟩)
  have hp := h.good.pos n
  have cc := qcount_any p v f B n w h
  have cs := qset_any p v f B n (f n + 1) w h h2 hB (by omega)
  have hw : IntKind.i64.wrap (f n + 1) = f n + 1 := IntWalk.i64_in _ (by omega)
  have hzb : (f n == 0) = false := by rw [beq_eq_false_iff_ne]; exact hz
  clear h h2 hB hz hf hp
  go_enter Try.func32, Try.ntmps32
  go_wp2_with fail
  refine ci.mono ?_
  rintro e w1 ⟨rfl, rfl⟩
  go_wp2_with fail
  refine cc.mono ?_
  rintro e w1 ⟨rfl, rfl⟩
  go_wp2_with fail
  refine cc.mono ?_
  rintro e w1 ⟨rfl, rfl⟩
  go_wp2_with fail
  refine cs.mono ?_
  rintro e w2 ⟨rfl, hl, k⟩
  go_wp2
  go_ret
  exact ⟨rfl, hl, k⟩

set_option maxRecDepth 100000 in
set_option maxHeartbeats 800000 in
theorem qdec_out (hn : n < 2 ∨ B ≤ n) : Calls Try.prog 33 #[.pointer (some ⟨p, 0, none⟩), .int .i64 n] w fun e w' => e = .returned (.tuple #[.bool false, .int .i64 1]) ∧ w = w' := by
  have ci := qis_any p v f B n w h false (by symm; rw [decide_eq_false_iff_not]; omega)
  clear hn h
  go_enter Try.func33, Try.ntmps33
  go_wp2_with fail
  refine ci.mono ?_
  rintro e w1 ⟨rfl, rfl⟩
  go_wp2
  go_ret2
  exact ⟨rfl, rfl⟩

set_option maxRecDepth 100000 in
set_option maxHeartbeats 800000 in
theorem qdec_state (h2 : 2 ≤ n) (hB : n < B) (hz : f n = 0) : Calls Try.prog 33 #[.pointer (some ⟨p, 0, none⟩), .int .i64 n] w fun e w' => e = .returned (.tuple #[.bool false, .int .i64 13]) ∧ w = w' := by
  have ci := qis_any p v f B n w h true (by symm; rw [decide_eq_true_eq]; exact ⟨h2, hB⟩)
  have cc := qcount_any p v f B n w h
  rw [hz] at cc
  clear h h2 hB hz
  go_enter Try.func33, Try.ntmps33
  go_wp2_with fail
  refine ci.mono ?_
  rintro e w1 ⟨rfl, rfl⟩
  go_wp2_with fail
  refine cc.mono ?_
  rintro e w1 ⟨rfl, rfl⟩
  go_wp2
  go_ret2
  exact ⟨rfl, rfl⟩

set_option maxRecDepth 100000 in
set_option maxHeartbeats 800000 in
theorem qdec_ok (h2 : 2 ≤ n) (hB : n < B) (hz : f n ≠ 0) (hf : f n ≤ 9223372036854775807) : Calls Try.prog 33 #[.pointer (some ⟨p, 0, none⟩), .int .i64 n] w fun e w' => e = .returned (.tuple #[.bool (f n == 1), .int .i64 0]) ∧ QLeft w w' p (Rf.upd f n (f n - 1)) B := by
  have ci := qis_any p v f B n w h true (by symm; rw [decide_eq_true_eq]; exact ⟨h2, hB⟩)
  have hp := h.good.pos n
  have cc := qcount_any p v f B n w h
  have cs := qset_any p v f B n (f n - 1) w h h2 hB (by omega)
  have hw : IntKind.i64.wrap (f n - 1) = f n - 1 := IntWalk.i64_in _ (by omega)
  have hzb : (f n == 0) = false := by rw [beq_eq_false_iff_ne]; exact hz
  have hlast : (f n - 1 == 0) = (f n == 1) := by
    rw [Bool.eq_iff_iff, beq_iff_eq, beq_iff_eq]; omega
  have HL := Lib.hid hlast
  clear h h2 hB hz hf hp hlast
  go_enter Try.func33, Try.ntmps33
  go_wp2_with fail
  refine ci.mono ?_
  rintro e w1 ⟨rfl, rfl⟩
  go_wp2_with fail
  refine cc.mono ?_
  rintro e w1 ⟨rfl, rfl⟩
  go_wp2_with fail
  refine cc.mono ?_
  rintro e w1 ⟨rfl, rfl⟩
  go_wp2_with fail
  refine cs.mono ?_
  rintro e w2 ⟨rfl, ⟨v', hr, hfr⟩, k⟩
  have c2 := qcount_any p v' _ B n w2 hr
  rw [Rf.upd_same] at c2
  go_wp2_with fail
  refine c2.mono ?_
  rintro e w3 ⟨rfl, rfl⟩
  go_wp2
  go_ret2
  exact ⟨by rw [← HL.out]; rfl, ⟨v', hr, hfr⟩, k⟩

set_option maxRecDepth 100000 in
set_option maxHeartbeats 800000 in
theorem qmark_out (hn : n < 2 ∨ B ≤ n) : Calls Try.prog 34 #[.pointer (some ⟨p, 0, none⟩), .int .i64 n] w fun e w' => e = .returned (.tuple #[.bool false, .int .i64 1]) ∧ w = w' := by
  have ci := qis_any p v f B n w h false (by symm; rw [decide_eq_false_iff_not]; omega)
  clear hn h
  go_enter Try.func34, Try.ntmps34
  go_wp2_with fail
  refine ci.mono ?_
  rintro e w1 ⟨rfl, rfl⟩
  go_wp2
  go_ret2
  exact ⟨rfl, rfl⟩

set_option maxRecDepth 100000 in
set_option maxHeartbeats 800000 in
theorem qmark_ok (h2 : 2 ≤ n) (hB : n < B) (hf : f n < 9223372036854775807) : Calls Try.prog 34 #[.pointer (some ⟨p, 0, none⟩), .int .i64 n] w fun e w' => e = .returned (.tuple #[.bool (f n == 0), .int .i64 0]) ∧ QLeft w w' p (Rf.upd f n (f n + 1)) B := by
  have ci := qis_any p v f B n w h true (by symm; rw [decide_eq_true_eq]; exact ⟨h2, hB⟩)
  have hp := h.good.pos n
  have cc := qcount_any p v f B n w h
  have cs := qset_any p v f B n (f n + 1) w h h2 hB (by omega)
  have hw : IntKind.i64.wrap (f n + 1) = f n + 1 := IntWalk.i64_in _ (by omega)
  have hlast : (f n + 1 == 1) = (f n == 0) := by
    rw [Bool.eq_iff_iff, beq_iff_eq, beq_iff_eq]; omega
  have HL := Lib.hid hlast
  clear h h2 hB hf hp hlast
  go_enter Try.func34, Try.ntmps34
  go_wp2_with fail
  refine ci.mono ?_
  rintro e w1 ⟨rfl, rfl⟩
  go_wp2_with fail
  refine cc.mono ?_
  rintro e w1 ⟨rfl, rfl⟩
  go_wp2_with fail
  refine cs.mono ?_
  rintro e w2 ⟨rfl, ⟨v', hr, hfr⟩, k⟩
  have c2 := qcount_any p v' _ B n w2 hr
  rw [Rf.upd_same] at c2
  go_wp2_with fail
  refine c2.mono ?_
  rintro e w3 ⟨rfl, rfl⟩
  go_wp2
  go_ret2
  exact ⟨by rw [← HL.out]; rfl, ⟨v', hr, hfr⟩, k⟩
end
end Go.Proofs.Ytlecdappgpbnlaa
