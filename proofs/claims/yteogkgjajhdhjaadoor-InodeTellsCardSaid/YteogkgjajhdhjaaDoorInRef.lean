/-
  The document's answer for inodes (wainscotref11): what each function does. No condition but that a text is not too long.
-/
import Derived.Test.YteogkgjajhdhjaaDoorInVar
import Derived.Test.YteogkgjajhdhjaaDoorPackI
namespace Go.Proofs.YteogkgjajhdhjaaDoor
open Go.RowKit

set_option maxRecDepth 100000 in
set_option maxHeartbeats 800000 in
theorem rright_any (d : Bool) (l s : Int) (w : World) : Calls Tryd.prog 28 #[.agg #[.bool d, .int .i64 l, .int .i64 s]] w fun e w' => e = .returned (.bool (In.right d l s)) ∧ Keep [] w w' := by
  cases d
  all_goals
    go_enter Tryd.func28, Tryd.ntmps28
    go_wp2
  all_goals
    go_ret
    refine ⟨ret_b ?_, (Keep.refl _ _).alloc _⟩
    rw [Bool.eq_iff_iff]
    unfold In.right
    simp
    (try omega)

set_option maxRecDepth 100000 in
set_option maxHeartbeats 800000 in
theorem rvalue_no (d : Bool) (l s : Int) (w : World) (hr : In.right d l s = false) : Calls Tryd.prog 12 #[.agg #[.bool d, .int .i64 l, .int .i64 s]] w fun e w' => e = .returned (.tuple #[.string ⟨#[]⟩, .bool false]) ∧ Keep [] w w' := by
  have HR := Lib.hid hr
  clear hr
  go_enter Tryd.func12, Tryd.ntmps12
  go_wp2_with fail
  refine (rright_any d l s _).mono ?_
  rintro e w2 ⟨rfl, k2⟩
  rw [HR.out]
  go_wp2
  go_ret2
  exact ⟨rfl, ((Keep.refl _ _).alloc _).trans k2 (by simp)⟩

set_option maxRecDepth 100000 in
set_option maxHeartbeats 1600000 in
theorem rvalue_ok (d : Bool) (l s : Int) (w : World) (hr : In.right d l s = true) : Calls Tryd.prog 12 #[.agg #[.bool d, .int .i64 l, .int .i64 s]] w fun e w' => e = .returned (.tuple #[.string (txt (In.value d l s)), .bool true]) ∧ Keep [] w w' := by
  have HR := Lib.hid hr
  have hb : d = false → 1 ≤ l ∧ l ≤ 65535 ∧ 0 ≤ s ∧ s ≤ 1048576 := fun h => by subst h; simpa [In.right] using hr
  clear hr
  go_enter Tryd.func12, Tryd.ntmps12
  go_wp2_with fail
  have BX := Blk.new' w [.bool d, .int .i64 l, .int .i64 s] 28
  have KX : Keep [] w (w.alloc (.cells #[.bool d, .int .i64 l, .int .i64 s] 28)) := (Keep.refl _ _).alloc _
  refine (rright_any d l s _).mono ?_
  rintro e w1 ⟨rfl, k1⟩
  rw [HR.out]
  have B1 := BX.keep k1 (by simp)
  have K1 := KX.trans k1 (by simp)
  clear BX KX k1
  go_wp2_with fail
  refine (kwnew_any 9 w1 (by omega)).mono ?_
  rintro e w2 ⟨rfl, v2, k2⟩
  have B2 := B1.keep k2 (by simp)
  have K2 := K1.trans k2 (by simp)
  have hwb := B1.lt
  have p0 := B2.cell 0
  have p1 := B2.cell 1
  have p2 := B2.cell 2
  simp only [List.getElem?_cons_zero, List.getElem?_cons_succ] at p0 p1 p2
  have hge : w.heap.size ≤ w1.heap.size := K1.size
  clear B1 K1 k2
  generalize w1.heap.size = bw at *
  cases d with
  | true =>
    clear hb p1 p2
    go_wp2_with fail
    refine (kwbyte_any bw _ 1 w2 (by omega) (by omega) v2).mono ?_
    rintro e w3 ⟨rfl, v3, k3⟩
    have K3 : Keep [] w w3 := K2.trans k3 (fun x hx => by simp at hx; omega)
    clear v2 K2 k3
    rw [show (⟨[], 9, false⟩ : Pk.Wr).byte 1 = ⟨In.value true l s, 9, false⟩ from rfl] at v3
    go_wp2_with fail
    refine (kwdone_any bw _ w3 v3).mono ?_
    rintro e w4 ⟨rfl, rfl⟩
    go_wp2
    go_ret2
    exact ⟨rfl, K3⟩
  | false =>
    obtain ⟨b1, b2, b3, b4⟩ := hb rfl
    clear hb
    go_wp2_with fail
    refine (kwbyte_any bw _ 2 w2 (by omega) (by omega) v2).mono ?_
    rintro e w3 ⟨rfl, v3, k3⟩
    have K3 : Keep [] w w3 := K2.trans k3 (fun x hx => by simp at hx; omega)
    have B3 := B2.keep k3 (by simp; omega)
    clear v2 K2 k3 p0 p1 p2 B2
    have p1 := B3.cell 1
    simp only [List.getElem?_cons_zero, List.getElem?_cons_succ] at p1
    rw [show (⟨[], 9, false⟩ : Pk.Wr).byte 2 = ⟨[2], 9, false⟩ from rfl] at v3
    go_wp2_with fail
    refine (kwword_any bw _ l w3 (by omega) (by omega) v3).mono ?_
    rintro e w4 ⟨rfl, v4, k4⟩
    have K4 : Keep [] w w4 := K3.trans k4 (fun x hx => by simp at hx; omega)
    have B4 := B3.keep k4 (by simp; omega)
    clear v3 K3 k4 p1 B3
    rw [word_st [2] 9 l (by omega) (by omega) (by simp)] at v4
    have p2 := B4.cell 2
    simp only [List.getElem?_cons_zero, List.getElem?_cons_succ] at p2
    go_wp2_with fail
    refine (kwword_any bw _ s w4 (by omega) (by omega) v4).mono ?_
    rintro e w5 ⟨rfl, v5, k5⟩
    have K5 : Keep [] w w5 := K4.trans k5 (fun x hx => by simp at hx; omega)
    clear v4 K4 k5 p2 B4
    rw [word_st ([2] ++ Pk.be l.toNat 4) 9 s (by omega) (by omega) (by simp [Pk.be_length])] at v5
    have hval : In.value false l s = [2] ++ Pk.be l.toNat 4 ++ Pk.be s.toNat 4 := by simp [In.value]
    rw [← hval] at v5
    clear hval
    go_wp2_with fail
    refine (kwdone_any bw _ w5 v5).mono ?_
    rintro e w6 ⟨rfl, rfl⟩
    go_wp2
    go_ret2
    exact ⟨rfl, K5⟩

set_option maxRecDepth 100000 in
set_option maxHeartbeats 800000 in
theorem rnumber_no (n : Int) (w : World) (hr : In.numbered n = false) : Calls Tryd.prog 16 #[.int .i64 n] w fun e w' => e = .returned (.tuple #[.string ⟨#[]⟩, .bool false]) ∧ Keep [] w w' := by
  have hb : n < 1 ∨ 1073741824 ≤ n := by simp [In.numbered] at hr; omega
  clear hr
  by_cases h1 : n < 1
  · go_enter Tryd.func16, Tryd.ntmps16
    go_wp2
    go_ret2
    exact ⟨rfl, Keep.refl _ _⟩
  · have h2 : 1073741824 ≤ n := by omega
    clear hb
    go_enter Tryd.func16, Tryd.ntmps16
    go_wp2
    go_ret2
    exact ⟨rfl, Keep.refl _ _⟩

set_option maxRecDepth 100000 in
set_option maxHeartbeats 800000 in
theorem rnumber_ok (n : Int) (w : World) (hr : In.numbered n = true) : Calls Tryd.prog 16 #[.int .i64 n] w fun e w' => e = .returned (.tuple #[.string (txt (In.number n)), .bool true]) ∧ Keep [] w w' := by
  have hb : 1 ≤ n ∧ n < 1073741824 := by simpa [In.numbered] using hr
  obtain ⟨h1, h2⟩ := hb
  have h1' : ¬ n < 1 := by omega
  have h2' : ¬ 1073741824 ≤ n := by omega
  clear hr
  go_enter Tryd.func16, Tryd.ntmps16
  go_wp2_with fail
  refine (kwnew_any 4 w (by omega)).mono ?_
  rintro e w2 ⟨rfl, v2, k2⟩
  have hge : w.heap.size ≤ w.heap.size := Nat.le_refl _
  obtain ⟨bw, hbw⟩ : ∃ bw, bw = w.heap.size := ⟨_, rfl⟩
  have hge : w.heap.size ≤ bw := by omega
  rw [← hbw] at v2 ⊢
  clear hbw
  go_wp2_with fail
  refine (kwword_any bw _ n w2 (by omega) (by omega) v2).mono ?_
  rintro e w3 ⟨rfl, v3, k3⟩
  have K3 : Keep [] w w3 := k2.trans k3 (fun x hx => by simp at hx; omega)
  clear v2 k2 k3
  rw [word_st [] 4 n (by omega) (by omega) (by simp)] at v3
  rw [show ([] : List UInt8) ++ Pk.be n.toNat 4 = In.number n from rfl] at v3
  go_wp2_with fail
  refine (kwdone_any bw _ w3 v3).mono ?_
  rintro e w6 ⟨rfl, rfl⟩
  go_wp2
  go_ret2
  exact ⟨rfl, K3⟩

theorem rvalue_var (d : Bool) (l s : Int) (w : World) : Calls Tryd.prog 12 #[.agg #[.bool d, .int .i64 l, .int .i64 s]] w fun e w' => ∃ t b, e = .returned (.tuple #[.string t, .bool b]) ∧ b = In.right d l s ∧ TxtIf b (In.value d l s) t ∧ Keep [] w w' := by
  cases h : In.right d l s with
  | true => exact (rvalue_ok d l s w h).mono fun e w' ⟨he, hk⟩ => ⟨_, _, he, rfl, ⟨fun _ => rfl, (fun h => by cases h)⟩, hk⟩
  | false => exact (rvalue_no d l s w h).mono fun e w' ⟨he, hk⟩ => ⟨_, _, he, rfl, ⟨(fun h => by cases h), fun _ => rfl⟩, hk⟩

theorem rnumber_var (n : Int) (w : World) : Calls Tryd.prog 16 #[.int .i64 n] w fun e w' => ∃ t b, e = .returned (.tuple #[.string t, .bool b]) ∧ b = In.numbered n ∧ TxtIf b (In.number n) t ∧ Keep [] w w' := by
  cases h : In.numbered n with
  | true => exact (rnumber_ok n w h).mono fun e w' ⟨he, hk⟩ => ⟨_, _, he, rfl, ⟨fun _ => rfl, (fun h => by cases h)⟩, hk⟩
  | false => exact (rnumber_no n w h).mono fun e w' ⟨he, hk⟩ => ⟨_, _, he, rfl, ⟨(fun h => by cases h), fun _ => rfl⟩, hk⟩
end Go.Proofs.YteogkgjajhdhjaaDoor
