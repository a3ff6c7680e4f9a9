/-
  slices.Clone of bytes; the writer's New, Done, Fill. No condition but that it is a writer.
-/
import Derived.Test.YteogkgjajhdhjaaPackB
namespace Go.Proofs.Yteogkgjajhdhjaa
open Go.RowKit

theorem eql27 : ∀ (w : World) (a : Option Addr) (n c n' c' : Nat), (binOp .eql 27 (.slice a n c) (.slice none n' c')).run Try.prog w = .ok (.bool a.isNone) w := fun w a n c n' c' => Lib.run_eql_slice_nil w _ _ a n c n' c' Try.underlying27

theorem bv_one (l : List UInt8) : ∀ u ∈ bv l, u.oneCell' = true := by
  intro u hu; simp only [bv, List.mem_map] at hu; obtain ⟨b, _, rfl⟩ := hu; rfl
theorem bv_length (l : List UInt8) : (bv l).length = l.length := by simp [bv]

set_option maxHeartbeats 400000 in
theorem clone_any (v : Value) (n : Nat) (l : List UInt8) (w : World) (h : RdV w v n 1 (bv l)) (hn : n ≤ 140737488355328) :
    Calls Try.prog 64 #[v] w fun e w' => ∃ v', e = .returned v' ∧ w'.ownsRow 0 5 1 v' n (bv l) ∧ Keep [] w w' ∧ ∀ k ∈ rowOf v', w.heap.size ≤ k := by
  obtain ⟨i0, hi, hz0, hz1, hz2⟩ := info_parts Try.info5
  have q27 := eql27
  obtain ⟨hl, ao, c, rfl, hc, hnn, hx⟩ := h
  cases ao with
  | none =>
    obtain ⟨rfl, rfl⟩ := hnn rfl
    have hl0 : bv l = [] := List.eq_nil_of_length_eq_zero (by simpa using hl)
    have HL := Lib.hid hl0
    clear hl0 hl
    go_enter Try.func64, Try.ntmps64
    go_wp2
    go_ret
    refine ⟨_, rfl, ?_, Keep.refl _ _, fun k hk => by simp [rowOf, Value.ownBlock] at hk⟩
    rw [HL.out]
    exact World.ownsRow_nil _ _ _ _
  | some a =>
    have Hl := Lib.hid hl
    have Hx := Lib.hid hx
    clear hx hnn hl
    go_enter Try.func64, Try.ntmps64
    go_wp2_with (at_builtin; refine wpList_app rfl _ _ 27 27 rfl _ _ rfl rfl (run_app_slice _ 27 _ 5 i0 _ 1 1 Try.underlying27 hi hz0 hz1 hz2 rfl (by decide) _ _ _ (ownsRow_made0 w 5 1) (some a) n c (bv l) (by simpa using Hl.out) (fun h => by cases h) (fun a' ha' j u hu => by have := Hx.out a' ha' j u hu; rw [World.cell?_alloc_lt _ _ _ (World.block_lt_of_cell? w _ this)]; exact this) (bv_one l) (by unfold maxLen; omega) (by omega)) ?_; intro v2 w2 hO)
    go_ret
    refine ⟨v2, rfl, by simpa using hO.1, ((Keep.refl _ _).alloc _).grown hO.2.1 (fun k hk => ?_), fun k hk => ?_⟩
    · simp [Value.ownBlock] at hk; exact Or.inr (Nat.le_of_eq hk)
    · rcases hO.2.2 k hk with h | h
      · simp [rowOf, Value.ownBlock] at h; omega
      · simp at h; omega

set_option maxHeartbeats 400000 in
theorem new_any (m : Int) (w : World) (hm : m ≤ 1000000) :
    Calls Try.prog 18 #[.int .i64 m] w fun e w' => e = .returned (.pointer (some ⟨w.heap.size, 0, none⟩)) ∧ IsW w' w.heap.size (.slice none 0 0) ⟨[], m.toNat, false⟩ ∧ Keep [] w w' ∧ w'.heap.size = w.heap.size + 1 := by
  have key : ∀ k : Nat, k ≤ 1000000 → IsW (w.alloc (.cells #[.slice none 0 0, .int .i64 k, .bool false] 85)) w.heap.size (.slice none 0 0) ⟨[], k, false⟩ := fun k hk =>
    ⟨Blk.new _ _ _, World.ownsRow_nil _ _ _ _, by simp [rowOf, Value.ownBlock], Nat.zero_le _, hk⟩
  by_cases h0 : m < 0
  · have e : m.toNat = 0 := by omega
    have k0 := key 0 (by omega)
    rw [e]
    clear e key
    go_enter Try.func18, Try.ntmps18
    go_wp2
    go_ret
    exact ⟨rfl, k0, (Keep.refl _ _).alloc _, by simp⟩
  · obtain ⟨k, rfl⟩ := Int.eq_ofNat_of_zero_le (show 0 ≤ m by omega)
    have k0 := key k (by omega)
    rw [Int.toNat_natCast]
    clear key
    go_enter Try.func18, Try.ntmps18
    go_wp2
    all_goals go_ret
    all_goals exact ⟨rfl, k0, (Keep.refl _ _).alloc _, by simp⟩

set_option maxHeartbeats 400000 in
theorem done_any (bw : Nat) (v : Value) (st : Pk.Wr) (w : World) (h : IsW w bw v st) :
    Calls Try.prog 20 #[.pointer (some ⟨bw, 0, none⟩)] w fun e w' => ∃ v', e = .returned (.tuple #[v', .bool (!st.bad)]) ∧ w'.ownsRow 0 5 1 v' (if st.bad then 0 else st.b.length) (bv (if st.bad then [] else st.b)) ∧ Keep [] w w' ∧ ∀ k ∈ rowOf v', w.heap.size ≤ k := by
  have c0 : w.cell? ⟨bw, 0, none⟩ = some v := h.blk.cell 0
  have c2 : w.cell? ⟨bw, 2, none⟩ = some (.bool st.bad) := h.blk.cell 2
  cases hb : st.bad with
  | true =>
    rw [hb] at c2
    go_enter Try.func20, Try.ntmps20
    go_wp2
    go_ret2
    exact ⟨_, rfl, World.ownsRow_nil _ _ _ _, Keep.refl _ _, fun k hk => by simp [rowOf, Value.ownBlock] at hk⟩
  | false =>
    rw [hb] at c2
    have hle := h.le
    have hcap := h.cap
    go_enter Try.func20, Try.ntmps20
    go_wp2_with fail
    refine (clone_any v st.b.length st.b w (RdV.ofOwn h.own) (by omega)).mono ?_
    rintro e w1 ⟨v1, rfl, o1, k1, r1⟩
    go_wp2
    go_ret2
    exact ⟨_, rfl, o1, k1, r1⟩

theorem done_ok (bw : Nat) (v : Value) (b : List UInt8) (m : Nat) (w : World) (h : IsW w bw v ⟨b, m, false⟩) :
    Calls Try.prog 20 #[.pointer (some ⟨bw, 0, none⟩)] w fun e w' => ∃ ao c, e = .returned (.tuple #[.slice ao b.length c, .bool true]) ∧ w'.ownsRow 0 5 1 (.slice ao b.length c) b.length (bv b) ∧ Keep [] w w' ∧ ∀ k ∈ rowOf (.slice ao b.length c), w.heap.size ≤ k := by
  refine (done_any bw v _ w h).mono ?_
  rintro e w' ⟨v', rfl, o, k, r⟩
  simp only [Bool.false_eq_true, if_false] at o
  obtain ⟨_, ao, c, e, _⟩ := RdV.ofOwn o
  subst e
  exact ⟨ao, c, rfl, o, k, r⟩

theorem done_bad (bw : Nat) (v : Value) (b : List UInt8) (m : Nat) (w : World) (h : IsW w bw v ⟨b, m, true⟩) :
    Calls Try.prog 20 #[.pointer (some ⟨bw, 0, none⟩)] w fun e w' => ∃ ao c, e = .returned (.tuple #[.slice ao 0 c, .bool false]) ∧ w'.ownsRow 0 5 1 (.slice ao 0 c) 0 [] ∧ Keep [] w w' ∧ ∀ k ∈ rowOf (.slice ao 0 c), w.heap.size ≤ k := by
  refine (done_any bw v _ w h).mono ?_
  rintro e w' ⟨v', rfl, o, k, r⟩
  simp only [eq_self, if_true] at o
  obtain ⟨_, ao, c, e, _⟩ := RdV.ofOwn o
  subst e
  exact ⟨ao, c, rfl, o, k, r⟩

theorem fill_false (st : Pk.Wr) (n : Int) (hr : st.room 0 (decide ((st.b.length : Int) ≤ n ∧ n ≤ st.most)) = false) (hle : st.b.length ≤ st.most) : st.fill n = { st with bad := true } := by
  unfold Pk.Wr.fill
  rw [if_pos]
  cases hb : st.bad
  · simp [Pk.Wr.room, hb] at hr
    simp
    omega
  · simp

theorem fill_true (st : Pk.Wr) (n : Int) (h0 : st.bad = false) (h1 : (st.b.length : Int) ≤ n) (h2 : n ≤ st.most) : st.fill n = { st with b := st.b ++ List.replicate (n.toNat - st.b.length) 0, bad := false } := by
  unfold Pk.Wr.fill
  rw [if_neg]
  · rw [h0]
  · simp [h0]; omega

set_option maxRecDepth 100000 in
set_option maxHeartbeats 800000 in
theorem fill_any (bw : Nat) (v : Value) (st : Pk.Wr) (n : Int) (w : World) (h : IsW w bw v st) :
    Calls Try.prog 21 #[.pointer (some ⟨bw, 0, none⟩), .int .i64 n] w fun e w' => e = .returned (.tuple #[]) ∧ WOut w w' bw v (st.fill n) := by
  obtain ⟨i0, hi, hz0, hz1, hz2⟩ := info_parts Try.info5
  have hcap := h.cap
  have hle := h.le
  obtain ⟨ao, cap, rfl⟩ := h.shape
  have c0 : w.cell? ⟨bw, 0, none⟩ = some (.slice ao st.b.length cap) := h.blk.cell 0
  have c1 : w.cell? ⟨bw, 1, none⟩ = some (.int .i64 st.most) := h.blk.cell 1
  by_cases hbad : st.bad = false ∧ (st.b.length : Int) ≤ n ∧ n ≤ st.most
  · obtain ⟨hb, hl1, hl2⟩ := hbad
    have hr : st.room 0 true = true := by simp [Pk.Wr.room, hb]; omega
    obtain ⟨k, hk⟩ : ∃ k : Nat, n = (st.b.length : Int) + k := ⟨(n - st.b.length).toNat, by omega⟩
    have hk' : k ≤ st.most - st.b.length := by omega
    have e0 := fill_true st n hb hl1 hl2
    have ek : n.toNat - st.b.length = k := by omega
    rw [ek] at e0
    have E0 := Lib.hid e0
    clear e0 ek
    have HR := Lib.hid hr
    have HK := Lib.hid hk
    clear hr hk hb
    go_enter Try.func21, Try.ntmps21
    go_wp2_with fail
    refine (room_any bw _ st 0 true w h).mono ?_
    rintro e w1 ⟨rfl, h1, k1⟩
    rw [HR.out] at h1 ⊢
    have d0 : w1.cell? ⟨bw, 0, none⟩ = some (.slice ao st.b.length cap) := h1.blk.cell 0
    have hown : w1.ownsRow 0 5 1 (.slice ao st.b.length cap) st.b.length (bv st.b) := h1.own
    have hbw := h1.blk.lt
    go_wp2
    have hs : IntKind.i64.wrap (n - (st.b.length : Int)) = n - st.b.length := IntWalk.i64_in _ (by omega)
    have ek : n - (st.b.length : Int) = k := by have := HK.out; omega
    have EK := Lib.hid ek
    clear ek
    go_region_law (refine step_app rfl _ _ 27 3 rfl _ (.int .i64 (n - st.b.length)) rfl rfl (R := AppOut 5 1 w1.drew (.slice ao st.b.length cap) (st.b.length + k) (bv st.b ++ List.replicate k (.int .u8 0))) (by rw [EK.out]; exact run_app_zeros _ 27 3 _ 5 i0 .i64 .i64 Try.underlying27 Try.underlying3 hi hz0 hz1 hz2 _ _ _ (by exact hown.drew) k (by unfold maxLen; omega) (by omega)) ?_; intro v2 w2 hO; obtain ⟨ao2, cp2, rfl⟩ := hO.slice; obtain ⟨b2, W2⟩ := app_store (b2 := st.b ++ List.replicate k 0) h1 ((Keep.refl _ _).drew) hO (by rw [bv_append]; simp [bv]) (by simp; omega); have c2 := b2.cell 0; have f2 := b2.free 0)
    all_goals
      go_wp2
      go_returns
      refine ⟨rfl, ?_⟩
      rw [E0.out]
      exact W2.after k1
  · have hr : st.room 0 (decide ((st.b.length : Int) ≤ n ∧ n ≤ st.most)) = false := by
      cases hb : st.bad
      · simp [hb] at hbad; simp [Pk.Wr.room, hb]; omega
      · simp [Pk.Wr.room, hb]
    have e0 := fill_false st n hr hle
    have E0 := Lib.hid e0
    clear e0
    have HR := Lib.hid hr
    clear hr hbad
    have HX : Hid (∀ my, my = decide ((st.b.length : Int) ≤ n ∧ n ≤ st.most) → st.room 0 my = false) := fun my hm => by rw [hm]; exact HR.out
    rcases Int.lt_or_le n (st.b.length : Int) with hl1 | hl1
    · have hd : decide ((st.b.length : Int) ≤ n) = false := by simpa using hl1
      go_enter Try.func21, Try.ntmps21
      go_wp2_with fail
      refine (room_any bw _ st 0 _ w h).mono ?_
      rintro e w1 ⟨rfl, h1, k1⟩
      rw [HX.out _ (by symm; rw [decide_eq_false_iff_not]; omega)] at h1 ⊢
      go_wp2
      go_returns
      refine ⟨rfl, ?_⟩
      rw [E0.out]
      exact WOut.same h1 k1
    · go_enter Try.func21, Try.ntmps21
      go_wp2_with fail
      refine (room_any bw _ st 0 _ w h).mono ?_
      rintro e w1 ⟨rfl, h1, k1⟩
      rw [HX.out _ (by rw [decide_eq_decide]; omega)] at h1 ⊢
      go_wp2
      go_returns
      refine ⟨rfl, ?_⟩
      rw [E0.out]
      exact WOut.same h1 k1
end Go.Proofs.Yteogkgjajhdhjaa
