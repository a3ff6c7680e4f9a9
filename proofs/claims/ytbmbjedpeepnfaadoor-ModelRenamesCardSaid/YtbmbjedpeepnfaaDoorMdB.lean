/-
  Package model: numbers: what is wrong with an op's numbers. No condition but that they are such.
-/
import Derived.Test.YtbmbjedpeepnfaaDoorMdA
namespace Go.Proofs.YtbmbjedpeepnfaaDoor
open Go.RowKit

set_option maxRecDepth 100000 in
set_option maxHeartbeats 4000000 in
theorem numbers_any (o : Md.Op) (w : World) (ok : OpOk o) : Calls Tryd.prog 41 #[.agg (opL o).toArray] w fun e w' => e = .returned (.int .i64 (Md.numbers o)) ∧ Keep [] w w' := by
  obtain ⟨kind, path, to', off, n, data⟩ := o
  obtain ⟨k0, k1, _, _, o0, o1, n0, n1, d⟩ := ok
  simp only at k0 k1 o0 o1 n0 n1 d
  simp only [opL]
  go_enter Tryd.func41, Tryd.ntmps41
  by_cases k3 : kind = 3
  · subst k3
    by_cases a : off < 0
    · by_cases b : n < 0
      · have c : n ≤ 4096 := by omega
        go_wp2_with (go_at_call 66; refine (first_any _ _ _).mono ?_; rintro e w' ⟨rfl, rfl⟩)
        go_ret
        refine ⟨?_, (Keep.refl _ _).alloc _⟩
        have e1 : decide (off < 0) = true := decide_eq_true (by omega)
        have e2 : decide (n < 0) = true := decide_eq_true (by omega)
        have e3 : decide (4096 < n) = false := decide_eq_false (by omega)
        rw [show Md.numbers ⟨3, path, to', off, n, data⟩ = Md.first (decide (off < 0) || decide (n < 0)) (decide (4096 < n)) from rfl, e1, e2, e3]
        rfl
      · have b' : 0 ≤ n := by omega
        clear b
        by_cases c : n ≤ 4096
        · go_wp2_with (go_at_call 66; refine (first_any _ _ _).mono ?_; rintro e w' ⟨rfl, rfl⟩)
          go_ret
          refine ⟨?_, (Keep.refl _ _).alloc _⟩
          have e1 : decide (off < 0) = true := decide_eq_true (by omega)
          have e2 : decide (n < 0) = false := decide_eq_false (by omega)
          have e3 : decide (4096 < n) = false := decide_eq_false (by omega)
          rw [show Md.numbers ⟨3, path, to', off, n, data⟩ = Md.first (decide (off < 0) || decide (n < 0)) (decide (4096 < n)) from rfl, e1, e2, e3]
          rfl
        · have c' : 4096 < n := by omega
          clear c
          go_wp2_with (go_at_call 66; refine (first_any _ _ _).mono ?_; rintro e w' ⟨rfl, rfl⟩)
          go_ret
          refine ⟨?_, (Keep.refl _ _).alloc _⟩
          have e1 : decide (off < 0) = true := decide_eq_true (by omega)
          have e2 : decide (n < 0) = false := decide_eq_false (by omega)
          have e3 : decide (4096 < n) = true := decide_eq_true (by omega)
          rw [show Md.numbers ⟨3, path, to', off, n, data⟩ = Md.first (decide (off < 0) || decide (n < 0)) (decide (4096 < n)) from rfl, e1, e2, e3]
          rfl
    · have a' : 0 ≤ off := by omega
      clear a
      by_cases b : n < 0
      · have c : n ≤ 4096 := by omega
        go_wp2_with (go_at_call 66; refine (first_any _ _ _).mono ?_; rintro e w' ⟨rfl, rfl⟩)
        go_ret
        refine ⟨?_, (Keep.refl _ _).alloc _⟩
        have e1 : decide (off < 0) = false := decide_eq_false (by omega)
        have e2 : decide (n < 0) = true := decide_eq_true (by omega)
        have e3 : decide (4096 < n) = false := decide_eq_false (by omega)
        rw [show Md.numbers ⟨3, path, to', off, n, data⟩ = Md.first (decide (off < 0) || decide (n < 0)) (decide (4096 < n)) from rfl, e1, e2, e3]
        rfl
      · have b' : 0 ≤ n := by omega
        clear b
        by_cases c : n ≤ 4096
        · go_wp2_with (go_at_call 66; refine (first_any _ _ _).mono ?_; rintro e w' ⟨rfl, rfl⟩)
          go_ret
          refine ⟨?_, (Keep.refl _ _).alloc _⟩
          have e1 : decide (off < 0) = false := decide_eq_false (by omega)
          have e2 : decide (n < 0) = false := decide_eq_false (by omega)
          have e3 : decide (4096 < n) = false := decide_eq_false (by omega)
          rw [show Md.numbers ⟨3, path, to', off, n, data⟩ = Md.first (decide (off < 0) || decide (n < 0)) (decide (4096 < n)) from rfl, e1, e2, e3]
          rfl
        · have c' : 4096 < n := by omega
          clear c
          go_wp2_with (go_at_call 66; refine (first_any _ _ _).mono ?_; rintro e w' ⟨rfl, rfl⟩)
          go_ret
          refine ⟨?_, (Keep.refl _ _).alloc _⟩
          have e1 : decide (off < 0) = false := decide_eq_false (by omega)
          have e2 : decide (n < 0) = false := decide_eq_false (by omega)
          have e3 : decide (4096 < n) = true := decide_eq_true (by omega)
          rw [show Md.numbers ⟨3, path, to', off, n, data⟩ = Md.first (decide (off < 0) || decide (n < 0)) (decide (4096 < n)) from rfl, e1, e2, e3]
          rfl
  · by_cases k4 : kind = 4
    · subst k4
      by_cases a : off < 0
      · by_cases p : data.size ≤ 4096
        · have pI : (data.size : Int) ≤ 4096 := by omega
          have pb : decide (4096 < (data.size : Int)) = false := decide_eq_false (by omega)
          by_cases q : off ≤ 1048576
          · have r : (data.size : Int) ≤ 1048576 - off := by omega
            go_wp2_with (go_at_call 66; refine (first_any _ _ _).mono ?_; rintro e w' ⟨rfl, rfl⟩)
            go_ret
            refine ⟨?_, (Keep.refl _ _).alloc _⟩
            have e1 : decide (off < 0) = true := decide_eq_true (by omega)
            have e2 : decide (4096 < data.size) = false := decide_eq_false (by omega)
            have e3 : decide (1048576 < off) = false := decide_eq_false (by omega)
            have e4 : decide (1048576 - off < (data.size : Int)) = false := decide_eq_false (by omega)
            rw [show Md.numbers ⟨4, path, to', off, n, data⟩ = Md.first (decide (off < 0)) (decide (4096 < data.size) || decide (1048576 < off) || decide (1048576 - off < (data.size : Int))) from rfl, e1, e2, e3, e4]
            rfl
          · exact absurd a (by omega)
        · have pI : (4096 : Int) < (data.size : Int) := by omega
          have p' : 4096 < data.size := by omega
          clear p
          go_wp2_with (go_at_call 66; refine (first_any _ _ _).mono ?_; rintro e w' ⟨rfl, rfl⟩)
          go_ret
          refine ⟨?_, (Keep.refl _ _).alloc _⟩
          have e1 : decide (off < 0) = true := decide_eq_true (by omega)
          have e2 : decide (4096 < data.size) = true := decide_eq_true (by omega)
          rw [show Md.numbers ⟨4, path, to', off, n, data⟩ = Md.first (decide (off < 0)) (decide (4096 < data.size) || decide (1048576 < off) || decide (1048576 - off < (data.size : Int))) from rfl, e1, e2]
          rfl
      · have a' : 0 ≤ off := by omega
        clear a
        by_cases p : data.size ≤ 4096
        · have pI : (data.size : Int) ≤ 4096 := by omega
          have pb : decide (4096 < (data.size : Int)) = false := decide_eq_false (by omega)
          by_cases q : off ≤ 1048576
          · have hw : IntKind.i64.wrap (1048576 - off) = 1048576 - off := IntWalk.i64_in _ (by omega)
            by_cases r : (data.size : Int) ≤ 1048576 - off
            · go_wp2_with (go_at_call 66; refine (first_any _ _ _).mono ?_; rintro e w' ⟨rfl, rfl⟩)
              go_ret
              refine ⟨?_, (Keep.refl _ _).alloc _⟩
              have e1 : decide (off < 0) = false := decide_eq_false (by omega)
              have e2 : decide (4096 < data.size) = false := decide_eq_false (by omega)
              have e3 : decide (1048576 < off) = false := decide_eq_false (by omega)
              have e4 : decide (1048576 - off < (data.size : Int)) = false := decide_eq_false (by omega)
              rw [show Md.numbers ⟨4, path, to', off, n, data⟩ = Md.first (decide (off < 0)) (decide (4096 < data.size) || decide (1048576 < off) || decide (1048576 - off < (data.size : Int))) from rfl, e1, e2, e3, e4]
              rfl
            · have r' : 1048576 - off < (data.size : Int) := by omega
              clear r
              go_wp2_with (go_at_call 66; refine (first_any _ _ _).mono ?_; rintro e w' ⟨rfl, rfl⟩)
              go_ret
              refine ⟨?_, (Keep.refl _ _).alloc _⟩
              have e1 : decide (off < 0) = false := decide_eq_false (by omega)
              have e2 : decide (4096 < data.size) = false := decide_eq_false (by omega)
              have e3 : decide (1048576 < off) = false := decide_eq_false (by omega)
              have e4 : decide (1048576 - off < (data.size : Int)) = true := decide_eq_true (by omega)
              rw [show Md.numbers ⟨4, path, to', off, n, data⟩ = Md.first (decide (off < 0)) (decide (4096 < data.size) || decide (1048576 < off) || decide (1048576 - off < (data.size : Int))) from rfl, e1, e2, e3, e4]
              rfl
          · have q' : 1048576 < off := by omega
            clear q
            go_wp2_with (go_at_call 66; refine (first_any _ _ _).mono ?_; rintro e w' ⟨rfl, rfl⟩)
            go_ret
            refine ⟨?_, (Keep.refl _ _).alloc _⟩
            have e1 : decide (off < 0) = false := decide_eq_false (by omega)
            have e2 : decide (4096 < data.size) = false := decide_eq_false (by omega)
            have e3 : decide (1048576 < off) = true := decide_eq_true (by omega)
            rw [show Md.numbers ⟨4, path, to', off, n, data⟩ = Md.first (decide (off < 0)) (decide (4096 < data.size) || decide (1048576 < off) || decide (1048576 - off < (data.size : Int))) from rfl, e1, e2, e3]
            rfl
        · have pI : (4096 : Int) < (data.size : Int) := by omega
          have p' : 4096 < data.size := by omega
          clear p
          go_wp2_with (go_at_call 66; refine (first_any _ _ _).mono ?_; rintro e w' ⟨rfl, rfl⟩)
          go_ret
          refine ⟨?_, (Keep.refl _ _).alloc _⟩
          have e1 : decide (off < 0) = false := decide_eq_false (by omega)
          have e2 : decide (4096 < data.size) = true := decide_eq_true (by omega)
          rw [show Md.numbers ⟨4, path, to', off, n, data⟩ = Md.first (decide (off < 0)) (decide (4096 < data.size) || decide (1048576 < off) || decide (1048576 - off < (data.size : Int))) from rfl, e1, e2]
          rfl
    · by_cases k11 : kind = 11
      · subst k11
        by_cases b : n < 0
        · have c : n ≤ 1048576 := by omega
          go_wp2_with (go_at_call 66; refine (first_any _ _ _).mono ?_; rintro e w' ⟨rfl, rfl⟩)
          go_ret
          refine ⟨?_, (Keep.refl _ _).alloc _⟩
          have e1 : decide (n < 0) = true := decide_eq_true (by omega)
          have e2 : decide (1048576 < n) = false := decide_eq_false (by omega)
          rw [show Md.numbers ⟨11, path, to', off, n, data⟩ = Md.first (decide (n < 0)) (decide (1048576 < n)) from rfl, e1, e2]
          rfl
        · have b' : 0 ≤ n := by omega
          clear b
          by_cases c : n ≤ 1048576
          · go_wp2_with (go_at_call 66; refine (first_any _ _ _).mono ?_; rintro e w' ⟨rfl, rfl⟩)
            go_ret
            refine ⟨?_, (Keep.refl _ _).alloc _⟩
            have e1 : decide (n < 0) = false := decide_eq_false (by omega)
            have e2 : decide (1048576 < n) = false := decide_eq_false (by omega)
            rw [show Md.numbers ⟨11, path, to', off, n, data⟩ = Md.first (decide (n < 0)) (decide (1048576 < n)) from rfl, e1, e2]
            rfl
          · have c' : 1048576 < n := by omega
            clear c
            go_wp2_with (go_at_call 66; refine (first_any _ _ _).mono ?_; rintro e w' ⟨rfl, rfl⟩)
            go_ret
            refine ⟨?_, (Keep.refl _ _).alloc _⟩
            have e1 : decide (n < 0) = false := decide_eq_false (by omega)
            have e2 : decide (1048576 < n) = true := decide_eq_true (by omega)
            rw [show Md.numbers ⟨11, path, to', off, n, data⟩ = Md.first (decide (n < 0)) (decide (1048576 < n)) from rfl, e1, e2]
            rfl
      · have h3 : (kind == 3) = false := by rw [beq_eq_false_iff_ne]; exact k3
        have h4 : (kind == 4) = false := by rw [beq_eq_false_iff_ne]; exact k4
        have h11 : (kind == 11) = false := by rw [beq_eq_false_iff_ne]; exact k11
        go_wp2
        go_ret
        refine ⟨?_, (Keep.refl _ _).alloc _⟩
        unfold Md.numbers
        rw [if_neg k3, if_neg k4, if_neg k11]
        rfl
end Go.Proofs.YtbmbjedpeepnfaaDoor
