/-
  Package inode: right, numbered, Value, Number. No condition.
-/
import Derived.Test.YteogkgjajhdhjaaDoorPackE
import Derived.Test.YteogkgjajhdhjaaDoorPackF
import Derived.Test.YteogkgjajhdhjaaDoorInPlain
import Derived.Laws.StructEq
namespace Go.Proofs.YteogkgjajhdhjaaDoor
open Go.RowKit

theorem ret_b {a b : Bool} (h : a = b) : Ending.returned (.bool a) = .returned (.bool b) := by rw [h]

set_option maxRecDepth 100000 in
set_option maxHeartbeats 800000 in
theorem innum_any (n : Int) (w : World) : Calls Tryd.prog 40 #[.int .i64 n] w fun e w' => e = .returned (.bool (In.numbered n)) ∧ w = w' := by
  go_enter Tryd.func40, Tryd.ntmps40
  go_wp2
  all_goals
    go_ret
    exact ⟨ret_b (by unfold In.numbered; rw [Bool.eq_iff_iff]; simp; (try omega)), rfl⟩

set_option maxRecDepth 100000 in
set_option maxHeartbeats 800000 in
theorem inright_any (d : Bool) (l s : Int) (w : World) : Calls Tryd.prog 24 #[.agg #[.bool d, .int .i64 l, .int .i64 s]] w fun e w' => e = .returned (.bool (In.right d l s)) ∧ Keep [] w w' := by
  cases d
  all_goals
    go_enter Tryd.func24, Tryd.ntmps24
    go_wp2
  all_goals
    go_ret
    refine ⟨ret_b ?_, (Keep.refl _ _).alloc _⟩
    rw [Bool.eq_iff_iff]
    unfold In.right
    simp
    (try omega)

theorem word_st (b : List UInt8) (m : Nat) (x : Int) (h0 : 0 ≤ x) (h1 : x ≤ 4294967295) (hm : b.length + 4 ≤ m) : (⟨b, m, false⟩ : Pk.Wr).word x = ⟨b ++ Pk.be x.toNat 4, m, false⟩ := by
  have hr : (⟨b, m, false⟩ : Pk.Wr).room ((Pk.be x.toNat 4).length : Int) (decide (0 ≤ x ∧ x ≤ 4294967295)) = true := by
    rw [Pk.be_length]; simp [Pk.Wr.room]; omega
  unfold Pk.Wr.word Pk.Wr.put
  rw [hr]; rfl

set_option maxRecDepth 100000 in
set_option maxHeartbeats 800000 in
theorem value_no (d : Bool) (l s : Int) (w : World) (hr : In.right d l s = false) : Calls Tryd.prog 11 #[.agg #[.bool d, .int .i64 l, .int .i64 s]] w fun e w' => e = .returned (.tuple #[.string ⟨#[]⟩, .bool false]) ∧ Keep [] w w' := by
  have HR := Lib.hid hr
  clear hr
  go_enter Tryd.func11, Tryd.ntmps11
  go_wp2_with fail
  have BX := Blk.new' w [.bool d, .int .i64 l, .int .i64 s] 28
  refine (new_any 9 _ (by omega)).mono ?_
  rintro e w1 ⟨rfl, h1, k1, _⟩
  have B1 := BX.keep k1 (by simp)
  have K1 : Keep [] w w1 := ((Keep.refl _ _).alloc _).trans k1 (by simp)
  have q0 := B1.cell 0
  have q1 := B1.cell 1
  have q2 := B1.cell 2
  simp only [List.getElem?_cons_zero, List.getElem?_cons_succ] at q0 q1 q2
  go_wp2_with fail
  refine (inright_any d l s _).mono ?_
  rintro e w2 ⟨rfl, k2⟩
  rw [HR.out]
  go_wp2
  go_ret2
  exact ⟨rfl, K1.trans k2 (by simp)⟩

set_option maxRecDepth 100000 in
set_option maxHeartbeats 1600000 in
theorem value_ok (d : Bool) (l s : Int) (w : World) (hr : In.right d l s = true) : Calls Tryd.prog 11 #[.agg #[.bool d, .int .i64 l, .int .i64 s]] w fun e w' => e = .returned (.tuple #[.string (txt (In.value d l s)), .bool true]) ∧ Keep [] w w' := by
  have HR := Lib.hid hr
  cases d with
  | true =>
    clear hr
    go_enter Tryd.func11, Tryd.ntmps11
    go_wp2_with fail
    have BX := Blk.new' w [.bool true, .int .i64 l, .int .i64 s] 28
    refine (new_any 9 _ (by omega)).mono ?_
    rintro e w1 ⟨rfl, h1, k1, _⟩
    have B1 := BX.keep k1 (by simp)
    have q0 := B1.cell 0
    have q1 := B1.cell 1
    have q2 := B1.cell 2
    simp only [List.getElem?_cons_zero, List.getElem?_cons_succ] at q0 q1 q2
    obtain ⟨wA, hwA⟩ : ∃ wA, wA = w.alloc (.cells #[.bool true, .int .i64 l, .int .i64 s] 28) := ⟨_, rfl⟩
    have KA : Keep [] w wA := by rw [hwA]; exact (Keep.refl _ _).alloc _
    rw [← hwA] at k1 h1 ⊢
    obtain ⟨bw, hbw⟩ : ∃ bw, bw = wA.heap.size := ⟨_, rfl⟩
    have L1 : LW wA.heap.size w1 bw (.slice none 0 0) ⟨[], (9 : Int).toNat, false⟩ := by rw [hbw]; exact LW.new (Keep.refl [] wA) h1
    rw [← hbw]
    clear hbw h1 hwA
    go_wp2_with fail
    refine (inright_any true l s _).mono ?_
    rintro e w2 ⟨rfl, k2⟩
    rw [HR.out]
    have p0 := (B1.keep k2 (by simp)).cell 0
    simp only [List.getElem?_cons_zero] at p0
    have L2 := L1.keep k2 (by simp)
    have K2 := k1.trans k2 (by simp)
    clear L1 k1 k2 q0 q1 q2
    go_wp2_with fail
    refine (byte_any bw _ _ 1 w2 (by omega) (by omega) L2.isw).mono ?_
    rintro e w3 ⟨rfl, o⟩
    obtain ⟨v3, L3, K3, _, _⟩ := LW.step (w0 := wA) L2 K2 o
    clear o L2 K2
    rw [show (⟨[], (9 : Int).toNat, false⟩ : Pk.Wr).byte 1 = ⟨In.value true l s, 9, false⟩ from rfl] at L3
    go_wp2_with fail
    refine (done_ok bw _ _ _ w3 L3.isw).mono ?_
    rintro e w4 ⟨ao4, c4, rfl, o4, k4, _⟩
    have hcv := conv_str (RdV.ofOwn o4)
    have K4 := K3.trans k4 (by simp)
    go_wp2
    go_ret2
    exact ⟨rfl, KA.trans K4 (by simp)⟩
  | false =>
    have hb : 1 ≤ l ∧ l ≤ 65535 ∧ 0 ≤ s ∧ s ≤ 1048576 := by simpa [In.right] using hr
    clear hr
    go_enter Tryd.func11, Tryd.ntmps11
    go_wp2_with fail
    have BX := Blk.new' w [.bool false, .int .i64 l, .int .i64 s] 28
    refine (new_any 9 _ (by omega)).mono ?_
    rintro e w1 ⟨rfl, h1, k1, _⟩
    have B1 := BX.keep k1 (by simp)
    have q0 := B1.cell 0
    have q1 := B1.cell 1
    have q2 := B1.cell 2
    simp only [List.getElem?_cons_zero, List.getElem?_cons_succ] at q0 q1 q2
    obtain ⟨wA, hwA⟩ : ∃ wA, wA = w.alloc (.cells #[.bool false, .int .i64 l, .int .i64 s] 28) := ⟨_, rfl⟩
    have KA : Keep [] w wA := by rw [hwA]; exact (Keep.refl _ _).alloc _
    have hlt : w.heap.size < wA.heap.size := by rw [hwA, World.size_alloc]; omega
    rw [← hwA] at k1 h1 ⊢
    obtain ⟨bw, hbw⟩ : ∃ bw, bw = wA.heap.size := ⟨_, rfl⟩
    have L1 : LW wA.heap.size w1 bw (.slice none 0 0) ⟨[], (9 : Int).toNat, false⟩ := by rw [hbw]; exact LW.new (Keep.refl [] wA) h1
    have hge := hbw
    rw [← hbw]
    clear hbw h1 hwA
    have HGE := Lib.hid hge
    clear hge
    go_wp2_with fail
    refine (inright_any false l s _).mono ?_
    rintro e w2 ⟨rfl, k2⟩
    rw [HR.out]
    have B2 := B1.keep k2 (by simp)
    have p0 := B2.cell 0
    simp only [List.getElem?_cons_zero] at p0
    have L2 := L1.keep k2 (by simp)
    have K2 := k1.trans k2 (by simp)
    clear L1 k1 k2 q0 q1 q2 B1 BX
    go_wp2_with fail
    refine (byte_any bw _ _ 2 w2 (by omega) (by omega) L2.isw).mono ?_
    rintro e w3 ⟨rfl, o⟩
    obtain ⟨v3, L3, K3, k3, _⟩ := LW.step (w0 := wA) L2 K2 o
    have B3 := B2.keep k3 (fun hx => by have := L2.ge _ hx; omega)
    clear o L2 K2 B2 p0 k3
    rw [show (⟨[], (9 : Int).toNat, false⟩ : Pk.Wr).byte 2 = ⟨[2], 9, false⟩ from rfl] at L3
    have p1 := B3.cell 1
    simp only [List.getElem?_cons_zero, List.getElem?_cons_succ] at p1
    go_wp2_with fail
    refine (word_any bw _ _ l w3 (by omega) (by omega) L3.isw).mono ?_
    rintro e w4 ⟨rfl, o⟩
    obtain ⟨v4, L4, K4, k4, _⟩ := LW.step (w0 := wA) L3 K3 o
    have B4 := B3.keep k4 (fun hx => by have := L3.ge _ hx; omega)
    clear o L3 K3 B3 p1 k4
    rw [word_st [2] 9 l (by omega) (by omega) (by simp)] at L4
    have p2 := B4.cell 2
    simp only [List.getElem?_cons_zero, List.getElem?_cons_succ] at p2
    go_wp2_with fail
    refine (word_any bw _ _ s w4 (by omega) (by omega) L4.isw).mono ?_
    rintro e w5 ⟨rfl, o⟩
    obtain ⟨v5, L5, K5, k5, _⟩ := LW.step (w0 := wA) L4 K4 o
    clear o L4 K4 B4 p2 k5
    rw [word_st ([2] ++ Pk.be l.toNat 4) 9 s (by omega) (by omega) (by simp [Pk.be_length])] at L5
    have hval : In.value false l s = [2] ++ Pk.be l.toNat 4 ++ Pk.be s.toNat 4 := by simp [In.value]
    rw [← hval] at L5
    have HV := Lib.hid hval
    clear hval
    go_wp2_with fail
    refine (done_ok bw _ _ _ w5 L5.isw).mono ?_
    rintro e w6 ⟨ao6, c6, rfl, o6, k6, _⟩
    have hcv := conv_str (RdV.ofOwn o6)
    have K6 := K5.trans k6 (by simp)
    go_wp2
    go_ret2
    exact ⟨rfl, KA.trans K6 (by simp)⟩

set_option maxRecDepth 100000 in
set_option maxHeartbeats 800000 in
theorem number_no (n : Int) (w : World) (hr : In.numbered n = false) : Calls Tryd.prog 15 #[.int .i64 n] w fun e w' => e = .returned (.tuple #[.string ⟨#[]⟩, .bool false]) ∧ Keep [] w w' := by
  have HR := Lib.hid hr
  clear hr
  go_enter Tryd.func15, Tryd.ntmps15
  go_wp2_with fail
  refine (innum_any n w).mono ?_
  rintro e w1 ⟨rfl, rfl⟩
  rw [HR.out]
  go_wp2
  go_ret2
  exact ⟨rfl, Keep.refl _ _⟩

set_option maxRecDepth 100000 in
set_option maxHeartbeats 800000 in
theorem innumber_ok (n : Int) (w : World) (hr : In.numbered n = true) : Calls Tryd.prog 15 #[.int .i64 n] w fun e w' => e = .returned (.tuple #[.string (txt (In.number n)), .bool true]) ∧ Keep [] w w' := by
  have HR := Lib.hid hr
  have hb : 1 ≤ n ∧ n < 1073741824 := by simpa [In.numbered] using hr
  clear hr
  go_enter Tryd.func15, Tryd.ntmps15
  go_wp2_with fail
  refine (innum_any n w).mono ?_
  rintro e w1 ⟨rfl, rfl⟩
  rw [HR.out]
  go_wp2_with fail
  refine (new_any 4 _ (by omega)).mono ?_
  rintro e w1 ⟨rfl, h1, k1, _⟩
  obtain ⟨bw, hbw⟩ : ∃ bw, bw = w.heap.size := ⟨_, rfl⟩
  have L1 : LW w.heap.size w1 bw (.slice none 0 0) ⟨[], (4 : Int).toNat, false⟩ := by rw [hbw]; exact LW.new (Keep.refl [] w) h1
  rw [← hbw]
  clear hbw h1
  go_wp2_with fail
  refine (word_any bw _ _ n w1 (by omega) (by omega) L1.isw).mono ?_
  rintro e w2 ⟨rfl, o⟩
  obtain ⟨v2, L2, K2, _, _⟩ := LW.step (w0 := w) L1 k1 o
  clear o L1 k1
  rw [word_st [] (4 : Int).toNat n (by omega) (by omega) (by simp)] at L2
  rw [show ([] : List UInt8) ++ Pk.be n.toNat 4 = In.number n from rfl] at L2
  go_wp2_with fail
  refine (done_ok bw _ _ _ w2 L2.isw).mono ?_
  rintro e w3 ⟨ao3, c3, rfl, o3, k3, _⟩
  have hcv := conv_str (RdV.ofOwn o3)
  have K3 := K2.trans k3 (by simp)
  go_wp2
  go_ret2
  exact ⟨rfl, K3⟩

end Go.Proofs.YteogkgjajhdhjaaDoor
