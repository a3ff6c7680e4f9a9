/-
  SuperNewer: of two that are valid the newer one counts, wherever it is: the law returns true, for any three numbers. No condition.
-/
import Derived.Test.YteogkgjajhdhjaaSuperL
namespace Go.Proofs.Yteogkgjajhdhjaa
open Go.RowKit

/-- the even superblock and the odd one -/
def evenS (a r : Nat) : Sp.Su := ⟨2 + 2 * a, 2 + r, 2, 0, []⟩
def oddS (b r : Nat) : Sp.Su := ⟨1 + 2 * b, 3 + r, 3, 0, []⟩
theorem evenS_right (a r : Nat) (ha : a ≤ 16777215) (hr : r ≤ 65535) : Sp.right (evenS a r) = true := by
  unfold Sp.right
  rw [(Sp.within_iff _ _ _).2 ⟨by simp [evenS] <;> omega, by simp [evenS] <;> omega⟩, (Sp.within_iff _ _ _).2 ⟨by simp [evenS], by simp [evenS]⟩, (Sp.within_iff _ _ _).2 ⟨by simp [evenS], by simp [evenS]⟩]
  have h2 : Sp.rootB (evenS a r).root = true := by
    unfold Sp.rootB
    rw [decide_eq_true (p := 2 ≤ (evenS a r).root) (by simp [evenS] <;> omega), decide_eq_true (p := (evenS a r).root ≤ 4294967295) (by simp [evenS] <;> omega)]
    simp
  rw [h2]
  rfl
theorem oddS_right (b r : Nat) (hb : b ≤ 16777215) (hr : r ≤ 65535) : Sp.right (oddS b r) = true := by
  unfold Sp.right
  rw [(Sp.within_iff _ _ _).2 ⟨by simp [oddS] <;> omega, by simp [oddS] <;> omega⟩, (Sp.within_iff _ _ _).2 ⟨by simp [oddS], by simp [oddS]⟩, (Sp.within_iff _ _ _).2 ⟨by simp [oddS], by simp [oddS]⟩]
  have h2 : Sp.rootB (oddS b r).root = true := by
    unfold Sp.rootB
    rw [decide_eq_true (p := 2 ≤ (oddS b r).root) (by simp [oddS] <;> omega), decide_eq_true (p := (oddS b r).root ≤ 4294967295) (by simp [oddS] <;> omega)]
    simp
  rw [h2]
  rfl
def wantS (a b r : Nat) : Sp.Su := if (2 + 2 * (a : Int)) < 1 + 2 * b then oddS b r else evenS a r

theorem newer_1 (a b r : Nat) (ha : a ≤ 16777215) (hb : b ≤ 16777215) (hr : r ≤ 65535) : chooseS (Sp.block (evenS a r)) (Sp.block (oddS b r)) = wantS a b r ∧ chooseE (Sp.block (evenS a r)) (Sp.block (oddS b r)) = 0 := by
  have e1 : bestOf ⟨0, 0, 0, 0, []⟩ 0 (Sp.block (evenS a r)) = evenS a r := by
    rw [bestOf_block (evenS_right a r ha hr), if_pos]
    simp [evenS] <;> omega
  have h : chooseS (Sp.block (evenS a r)) (Sp.block (oddS b r)) = wantS a b r := by
    rw [chooseS_eq]
    rw [e1, bestOf_block (oddS_right b r hb hr)]
    unfold wantS
    by_cases hc : (2 + 2 * (a : Int)) < 1 + 2 * b
    · rw [if_pos hc, if_pos ⟨by simp [oddS] <;> omega, by simp [oddS, evenS] <;> omega⟩]
    · rw [if_neg hc, if_neg (fun h => hc (by simpa [oddS, evenS] using h.2))]
  refine ⟨h, chooseE_pos h ?_⟩
  unfold wantS
  split
  · simp [oddS] <;> omega
  · simp [evenS] <;> omega
theorem newer_2 (a b r : Nat) (ha : a ≤ 16777215) (hb : b ≤ 16777215) (hr : r ≤ 65535) : chooseS (Sp.block (oddS b r)) (Sp.block (evenS a r)) = ⟨0, 0, 0, 0, []⟩ ∧ chooseE (Sp.block (oddS b r)) (Sp.block (evenS a r)) = 12 := by
  have h : chooseS (Sp.block (oddS b r)) (Sp.block (evenS a r)) = ⟨0, 0, 0, 0, []⟩ := by
    rw [chooseS_eq]
    rw [bestOf_block (oddS_right b r hb hr), if_neg (fun h => by have := h.1; simp [oddS] at this <;> omega), bestOf_block (evenS_right a r ha hr), if_neg (fun h => by have := h.1; simp [evenS] at this <;> omega)]
  refine ⟨h, ?_⟩
  unfold chooseE
  rw [h]
  rfl
theorem newer_3 (a r : Nat) (ha : a ≤ 16777215) (hr : r ≤ 65535) : chooseS (Sp.block (evenS a r)) (Sp.block (evenS a r)) = evenS a r ∧ chooseE (Sp.block (evenS a r)) (Sp.block (evenS a r)) = 0 := by
  have h : chooseS (Sp.block (evenS a r)) (Sp.block (evenS a r)) = evenS a r := by
    rw [chooseS_eq]
    have e1 : bestOf ⟨0, 0, 0, 0, []⟩ 0 (Sp.block (evenS a r)) = evenS a r := by
      rw [bestOf_block (evenS_right a r ha hr), if_pos]
      simp [evenS] <;> omega
    rw [e1, bestOf_block (evenS_right a r ha hr), if_neg (fun h => by have := h.1; simp [evenS] at this <;> omega)]
  exact ⟨h, chooseE_pos h (by simp [evenS] <;> omega)⟩
theorem newer_4 (b r : Nat) (hb : b ≤ 16777215) (hr : r ≤ 65535) : chooseS (Sp.block (oddS b r)) (Sp.block (oddS b r)) = oddS b r ∧ chooseE (Sp.block (oddS b r)) (Sp.block (oddS b r)) = 0 := by
  have h : chooseS (Sp.block (oddS b r)) (Sp.block (oddS b r)) = oddS b r := by
    rw [chooseS_eq]
    have e1 : bestOf ⟨0, 0, 0, 0, []⟩ 0 (Sp.block (oddS b r)) = ⟨0, 0, 0, 0, []⟩ := by
      rw [bestOf_block (oddS_right b r hb hr), if_neg (fun h => by have := h.1; simp [oddS] at this <;> omega)]
    rw [e1, bestOf_block (oddS_right b r hb hr), if_pos]
    simp [oddS] <;> omega
  exact ⟨h, chooseE_pos h (by simp [oddS] <;> omega)⟩
theorem newer_5 (b r : Nat) (hb : b ≤ 16777215) (hr : r ≤ 65535) : chooseS [] (Sp.block (oddS b r)) = oddS b r ∧ chooseE [] (Sp.block (oddS b r)) = 0 := by
  have h : chooseS [] (Sp.block (oddS b r)) = oddS b r := by
    rw [chooseS_eq]
    rw [bestOf_nil, bestOf_block (oddS_right b r hb hr), if_pos]
    simp [oddS] <;> omega
  exact ⟨h, chooseE_pos h (by simp [oddS] <;> omega)⟩
set_option maxRecDepth 100000 in
set_option maxHeartbeats 6400000 in
theorem superNewer_walk (a0 b0 r0 : Int) (w : World) :
    Calls Try.prog 16 #[.int .i64 a0, .int .i64 b0, .int .i64 r0] w fun e w' => e = .returned (.bool true) ∧ Keep [] w w' := by
  obtain ⟨a, ha, ha1, za⟩ := mask24 a0
  obtain ⟨b, hb, hb1, zb⟩ := mask24 b0
  obtain ⟨r, hr, hr1, zr⟩ := mask16 r0
  clear za zb zr
  have RE := evenS_right a r ha1 hr1
  have RO := oddS_right b r hb1 hr1
  go_enter Try.func16, Try.ntmps16
  go_wp2_with fail
  refine (shown4_any _).mono ?_
  rintro e w1 ⟨rfl, k1⟩
  obtain ⟨w2, hw2⟩ : ∃ W, W = (w1.alloc (.cells [.int .i64 (2 + 2 * (a : Int)), .int .i64 (2 + (r : Int)), .int .i64 2, .int .i64 0, .slice none 0 0].toArray 59)).alloc (.cells [.int .i64 (1 + 2 * (b : Int)), .int .i64 (3 + (r : Int)), .int .i64 3, .int .i64 0, .slice none 0 0].toArray 59) := ⟨_, rfl⟩
  have K2 : Keep [] w w2 := by rw [hw2]; exact (k1.alloc _).alloc _
  obtain ⟨b8, hb8⟩ : ∃ x, x = w1.heap.size := ⟨_, rfl⟩
  obtain ⟨b9, hb9⟩ : ∃ x, x = w1.heap.size + 1 := ⟨_, rfl⟩
  have B8 : Blk w2 b8 [.int .i64 (2 + 2 * (a : Int)), .int .i64 (2 + (r : Int)), .int .i64 2, .int .i64 0, .slice none 0 0] 59 := by rw [hw2, hb8]; exact (Blk.new' _ _ _).alloc _
  have B9 : Blk w2 b9 [.int .i64 (1 + 2 * (b : Int)), .int .i64 (3 + (r : Int)), .int .i64 3, .int .i64 0, .slice none 0 0] 59 := by
    have := Blk.new' (w1.alloc (.cells [.int .i64 (2 + 2 * (a : Int)), .int .i64 (2 + (r : Int)), .int .i64 2, .int .i64 0, .slice none 0 0].toArray 59)) [.int .i64 (1 + 2 * (b : Int)), .int .i64 (3 + (r : Int)), .int .i64 3, .int .i64 0, .slice none 0 0] 59
    rw [hw2, hb9]
    simpa using this
  go_wp2_with fail
  rw [← hw2, ← hb9, ← hb8]
  clear hb8 hb9 hw2 k1
  obtain ⟨BE, hBE⟩ : ∃ B, B = Sp.block (evenS a r) := ⟨_, rfl⟩
  obtain ⟨BO, hBO⟩ : ∃ B, B = Sp.block (oddS b r) := ⟨_, rfl⟩
  have lE : BE.length = 512 := by rw [hBE]; exact Sp.block_length (Sp.right_bd RE)
  have lO : BO.length = 512 := by rw [hBO]; exact Sp.block_length (Sp.right_bd RO)
  refine (bytes_ok (evenS a r) _ w2 (su_s _ _ _ _ _) RE).mono ?_
  rintro e w3 ⟨aoE, cE, rfl, oE, k3, _⟩
  rw [← hBE] at oE
  have rE : RdV w3 (.slice aoE 512 cE) BE.length 1 (bv BE) := by rw [lE]; exact RdV.ofOwn oE
  have B9a := B9.keep k3 (by simp)
  have q0 := B9a.cell 0
  have q1 := B9a.cell 1
  have q2 := B9a.cell 2
  have q3 := B9a.cell 3
  have q4 := B9a.cell 4
  simp only [List.getElem?_cons_zero, List.getElem?_cons_succ] at q0 q1 q2 q3 q4
  have N1 := Lib.hid (newer_1 a b r ha1 hb1 hr1)
  have N2 := Lib.hid (newer_2 a b r ha1 hb1 hr1)
  have N3 := Lib.hid (newer_3 a r ha1 hr1)
  have N4 := Lib.hid (newer_4 b r hb1 hr1)
  have N5 := Lib.hid (newer_5 b r hb1 hr1)
  rw [← hBE, ← hBO] at N1 N2
  rw [← hBE] at N3
  rw [← hBO] at N4 N5
  have HBO := Lib.hid hBO
  clear oE hBE hBO lE
  have LO := Lib.hid lO
  clear lO
  go_wp2_with fail
  refine (bytes_ok (oddS b r) _ w3 (su_s _ _ _ _ _) RO).mono ?_
  rintro e w4 ⟨aoO, cO, rfl, oO, k4, _⟩
  rw [← HBO.out] at oO
  have rO : RdV w4 (.slice aoO 512 cO) BO.length 1 (bv BO) := by rw [LO.out]; exact RdV.ofOwn oO
  have rE4 := rE.keep k4 (by simp)
  have B9b := B9a.keep k4 (by simp)
  have B8b := (B8.keep k3 (by simp)).keep k4 (by simp)
  have K4 : Keep [] w w4 := (K2.trans k3 (by simp)).trans k4 (by simp)
  clear q0 q1 q2 q3 q4 oO B9 B9a B8 rE k3 k4 K2
  have q0 := B9b.cell 0
  have q1 := B9b.cell 1
  have q2 := B9b.cell 2
  have q3 := B9b.cell 3
  have q4 := B9b.cell 4
  have p0 := B8b.cell 0
  have p1 := B8b.cell 1
  have p2 := B8b.cell 2
  have p3 := B8b.cell 3
  have p4 := B8b.cell 4
  simp only [List.getElem?_cons_zero, List.getElem?_cons_succ] at q0 q1 q2 q3 q4 p0 p1 p2 p3 p4
  have hb8l := B8b.lt
  have hb9l := B9b.lt
  have hcc : 1 ≤ 2 := by omega
  by_cases hgt : (2 + 2 * (a : Int)) < 1 + 2 * b
  · have hgt' := hgt
    have hwt : wantS a b r = oddS b r := by unfold wantS; rw [if_pos hgt]
    rw [hwt] at N1
    obtain ⟨W5, hW5⟩ : ∃ W, W = w4.alloc (.cells [.int .i64 (1 + 2 * (b : Int)), .int .i64 (3 + (r : Int)), .int .i64 3, .int .i64 0, .slice none 0 0].toArray 59) := ⟨_, rfl⟩
    obtain ⟨b14, hb14⟩ : ∃ x, x = w4.heap.size := ⟨_, rfl⟩
    have B14 : Blk W5 b14 [.int .i64 (1 + 2 * (b : Int)), .int .i64 (3 + (r : Int)), .int .i64 3, .int .i64 0, .slice none 0 0] 59 := by rw [hW5, hb14]; exact Blk.new' _ _ _
    have K5 : Keep [] w4 W5 := by rw [hW5]; exact (Keep.refl _ _).alloc _
    go_wp2_with fail
    rw [← hW5, ← hb14]
    clear hW5 hb14 q0 q1 q2 q3 q4 p0 p1 p2 p3 p4 hwt
    refine (choose_any _ _ BE BO W5 (rE4.keep K5 (by simp)) (rO.keep K5 (by simp))).mono ?_
    rintro e x1 ⟨v1, rfl, sn1, k1⟩
    rw [N1.out.1] at sn1
    rw [N1.out.2]
    obtain ⟨ao1, c1, rfl, _, _, _⟩ := sn1
    obtain ⟨Y1, hY1⟩ : ∃ W, W = x1.alloc (.cells [.int .i64 (oddS b r).gen, .int .i64 (oddS b r).root, .int .i64 (oddS b r).next, .int .i64 (oddS b r).commit, .slice ao1 (oddS b r).snaps.length c1].toArray 59) := ⟨_, rfl⟩
    obtain ⟨bb1, hbb1⟩ : ∃ x, x = x1.heap.size := ⟨_, rfl⟩
    have D1 : Blk Y1 bb1 [.int .i64 (oddS b r).gen, .int .i64 (oddS b r).root, .int .i64 (oddS b r).next, .int .i64 (oddS b r).commit, .slice ao1 (oddS b r).snaps.length c1] 59 := by rw [hY1, hbb1]; exact Blk.new' _ _ _
    have kk1 : Keep [] W5 Y1 := by rw [hY1]; exact k1.alloc _
    have KK1 : Keep [] w4 Y1 := K5.trans kk1 (by simp)
    go_wp2_with fail
    try simp only [List.length_nil]
    rw [← hY1, ← hbb1]
    clear hY1 hbb1 k1
    refine (choose_any _ _ BO BE Y1 (rO.keep KK1 (by simp)) (rE4.keep KK1 (by simp))).mono ?_
    rintro e x2 ⟨v2, rfl, sn2, k2⟩
    rw [N2.out.1] at sn2
    rw [N2.out.2]
    obtain ⟨ao2, c2, rfl, _, _, _⟩ := sn2
    obtain ⟨Y2, hY2⟩ : ∃ W, W = x2.alloc (.cells [.int .i64 0, .int .i64 0, .int .i64 0, .int .i64 0, .slice ao2 0 c2].toArray 59) := ⟨_, rfl⟩
    obtain ⟨bb2, hbb2⟩ : ∃ x, x = x2.heap.size := ⟨_, rfl⟩
    have D2 : Blk Y2 bb2 [.int .i64 0, .int .i64 0, .int .i64 0, .int .i64 0, .slice ao2 0 c2] 59 := by rw [hY2, hbb2]; exact Blk.new' _ _ _
    have kk2 : Keep [] Y1 Y2 := by rw [hY2]; exact k2.alloc _
    have KK2 : Keep [] w4 Y2 := KK1.trans kk2 (by simp)
    go_wp2_with fail
    try simp only [List.length_nil]
    rw [← hY2, ← hbb2]
    clear hY2 hbb2 k2
    refine (choose_any _ _ BE BE Y2 (rE4.keep KK2 (by simp)) (rE4.keep KK2 (by simp))).mono ?_
    rintro e x3 ⟨v3, rfl, sn3, k3⟩
    rw [N3.out.1] at sn3
    rw [N3.out.2]
    obtain ⟨ao3, c3, rfl, _, _, _⟩ := sn3
    obtain ⟨Y3, hY3⟩ : ∃ W, W = x3.alloc (.cells [.int .i64 (evenS a r).gen, .int .i64 (evenS a r).root, .int .i64 (evenS a r).next, .int .i64 (evenS a r).commit, .slice ao3 (evenS a r).snaps.length c3].toArray 59) := ⟨_, rfl⟩
    obtain ⟨bb3, hbb3⟩ : ∃ x, x = x3.heap.size := ⟨_, rfl⟩
    have D3 : Blk Y3 bb3 [.int .i64 (evenS a r).gen, .int .i64 (evenS a r).root, .int .i64 (evenS a r).next, .int .i64 (evenS a r).commit, .slice ao3 (evenS a r).snaps.length c3] 59 := by rw [hY3, hbb3]; exact Blk.new' _ _ _
    have kk3 : Keep [] Y2 Y3 := by rw [hY3]; exact k3.alloc _
    have KK3 : Keep [] w4 Y3 := KK2.trans kk3 (by simp)
    go_wp2_with fail
    try simp only [List.length_nil]
    rw [← hY3, ← hbb3]
    clear hY3 hbb3 k3
    refine (choose_any _ _ BO BO Y3 (rO.keep KK3 (by simp)) (rO.keep KK3 (by simp))).mono ?_
    rintro e x4 ⟨v4, rfl, sn4, k4⟩
    rw [N4.out.1] at sn4
    rw [N4.out.2]
    obtain ⟨ao4, c4, rfl, _, _, _⟩ := sn4
    obtain ⟨Y4, hY4⟩ : ∃ W, W = x4.alloc (.cells [.int .i64 (oddS b r).gen, .int .i64 (oddS b r).root, .int .i64 (oddS b r).next, .int .i64 (oddS b r).commit, .slice ao4 (oddS b r).snaps.length c4].toArray 59) := ⟨_, rfl⟩
    obtain ⟨bb4, hbb4⟩ : ∃ x, x = x4.heap.size := ⟨_, rfl⟩
    have D4 : Blk Y4 bb4 [.int .i64 (oddS b r).gen, .int .i64 (oddS b r).root, .int .i64 (oddS b r).next, .int .i64 (oddS b r).commit, .slice ao4 (oddS b r).snaps.length c4] 59 := by rw [hY4, hbb4]; exact Blk.new' _ _ _
    have kk4 : Keep [] Y3 Y4 := by rw [hY4]; exact k4.alloc _
    have KK4 : Keep [] w4 Y4 := KK3.trans kk4 (by simp)
    go_wp2_with fail
    try simp only [List.length_nil]
    rw [← hY4, ← hbb4]
    clear hY4 hbb4 k4
    refine (choose_any _ _ [] BO Y4 (rd_none _) (rO.keep KK4 (by simp))).mono ?_
    rintro e x5 ⟨v5, rfl, sn5, k5⟩
    rw [N5.out.1] at sn5
    rw [N5.out.2]
    obtain ⟨ao5, c5, rfl, _, _, _⟩ := sn5
    have J1 := ((kk2.trans kk3 (by simp)).trans kk4 (by simp)).trans k5 (by simp)
    have J0 := kk1.trans J1 (by simp)
    have J3 := kk4.trans k5 (by simp)
    have JB := K5.trans J0 (by simp)
    have u1 : x5.cell? ⟨bb1, 0, none⟩ = some (.int .i64 (1 + 2 * (b : Int))) := (D1.keep J1 (by simp)).cell 0
    have u2 : x5.cell? ⟨bb1, 1, none⟩ = some (.int .i64 (3 + (r : Int))) := (D1.keep J1 (by simp)).cell 1
    have u3 : x5.cell? ⟨b14, 0, none⟩ = some (.int .i64 (1 + 2 * (b : Int))) := (B14.keep J0 (by simp)).cell 0
    have u4 : x5.cell? ⟨b14, 1, none⟩ = some (.int .i64 (3 + (r : Int))) := (B14.keep J0 (by simp)).cell 1
    have u5 : x5.cell? ⟨bb3, 0, none⟩ = some (.int .i64 (2 + 2 * (a : Int))) := (D3.keep J3 (by simp)).cell 0
    have u6 : x5.cell? ⟨b8, 0, none⟩ = some (.int .i64 (2 + 2 * (a : Int))) := (B8b.keep JB (by simp)).cell 0
    have u7 : x5.cell? ⟨bb4, 0, none⟩ = some (.int .i64 (1 + 2 * (b : Int))) := (D4.keep k5 (by simp)).cell 0
    have u8 : x5.cell? ⟨b9, 0, none⟩ = some (.int .i64 (1 + 2 * (b : Int))) := (B9b.keep JB (by simp)).cell 0
    have l1 := (D1.keep J1 (by simp)).lt
    have l2 := (B14.keep J0 (by simp)).lt
    have l3 := (D3.keep J3 (by simp)).lt
    have l4 := (B8b.keep JB (by simp)).lt
    have l5 := (D4.keep k5 (by simp)).lt
    have l6 := (B9b.keep JB (by simp)).lt
    have z1 : (oddS b r).gen = 1 + 2 * (b : Int) := rfl
    clear D1 D2 D3 D4 B14 B8b B9b rO rE4 kk1 kk2 kk3 kk4 KK1 KK2 KK3 KK4 J0 J1 J3
    go_wp2
    go_ret
    exact ⟨rfl, (K4.trans JB (by simp)).alloc _⟩
  · have hgt' : (1 + 2 * (b : Int)) ≤ 2 + 2 * a := by omega
    have hwt : wantS a b r = evenS a r := by unfold wantS; rw [if_neg hgt]
    rw [hwt] at N1
    obtain ⟨W5, hW5⟩ : ∃ W, W = w4.alloc (.cells [.int .i64 (2 + 2 * (a : Int)), .int .i64 (2 + (r : Int)), .int .i64 2, .int .i64 0, .slice none 0 0].toArray 59) := ⟨_, rfl⟩
    obtain ⟨b14, hb14⟩ : ∃ x, x = w4.heap.size := ⟨_, rfl⟩
    have B14 : Blk W5 b14 [.int .i64 (2 + 2 * (a : Int)), .int .i64 (2 + (r : Int)), .int .i64 2, .int .i64 0, .slice none 0 0] 59 := by rw [hW5, hb14]; exact Blk.new' _ _ _
    have K5 : Keep [] w4 W5 := by rw [hW5]; exact (Keep.refl _ _).alloc _
    go_wp2_with fail
    rw [← hW5, ← hb14]
    clear hW5 hb14 q0 q1 q2 q3 q4 p0 p1 p2 p3 p4 hwt
    refine (choose_any _ _ BE BO W5 (rE4.keep K5 (by simp)) (rO.keep K5 (by simp))).mono ?_
    rintro e x1 ⟨v1, rfl, sn1, k1⟩
    rw [N1.out.1] at sn1
    rw [N1.out.2]
    obtain ⟨ao1, c1, rfl, _, _, _⟩ := sn1
    obtain ⟨Y1, hY1⟩ : ∃ W, W = x1.alloc (.cells [.int .i64 (evenS a r).gen, .int .i64 (evenS a r).root, .int .i64 (evenS a r).next, .int .i64 (evenS a r).commit, .slice ao1 (evenS a r).snaps.length c1].toArray 59) := ⟨_, rfl⟩
    obtain ⟨bb1, hbb1⟩ : ∃ x, x = x1.heap.size := ⟨_, rfl⟩
    have D1 : Blk Y1 bb1 [.int .i64 (evenS a r).gen, .int .i64 (evenS a r).root, .int .i64 (evenS a r).next, .int .i64 (evenS a r).commit, .slice ao1 (evenS a r).snaps.length c1] 59 := by rw [hY1, hbb1]; exact Blk.new' _ _ _
    have kk1 : Keep [] W5 Y1 := by rw [hY1]; exact k1.alloc _
    have KK1 : Keep [] w4 Y1 := K5.trans kk1 (by simp)
    go_wp2_with fail
    try simp only [List.length_nil]
    rw [← hY1, ← hbb1]
    clear hY1 hbb1 k1
    refine (choose_any _ _ BO BE Y1 (rO.keep KK1 (by simp)) (rE4.keep KK1 (by simp))).mono ?_
    rintro e x2 ⟨v2, rfl, sn2, k2⟩
    rw [N2.out.1] at sn2
    rw [N2.out.2]
    obtain ⟨ao2, c2, rfl, _, _, _⟩ := sn2
    obtain ⟨Y2, hY2⟩ : ∃ W, W = x2.alloc (.cells [.int .i64 0, .int .i64 0, .int .i64 0, .int .i64 0, .slice ao2 0 c2].toArray 59) := ⟨_, rfl⟩
    obtain ⟨bb2, hbb2⟩ : ∃ x, x = x2.heap.size := ⟨_, rfl⟩
    have D2 : Blk Y2 bb2 [.int .i64 0, .int .i64 0, .int .i64 0, .int .i64 0, .slice ao2 0 c2] 59 := by rw [hY2, hbb2]; exact Blk.new' _ _ _
    have kk2 : Keep [] Y1 Y2 := by rw [hY2]; exact k2.alloc _
    have KK2 : Keep [] w4 Y2 := KK1.trans kk2 (by simp)
    go_wp2_with fail
    try simp only [List.length_nil]
    rw [← hY2, ← hbb2]
    clear hY2 hbb2 k2
    refine (choose_any _ _ BE BE Y2 (rE4.keep KK2 (by simp)) (rE4.keep KK2 (by simp))).mono ?_
    rintro e x3 ⟨v3, rfl, sn3, k3⟩
    rw [N3.out.1] at sn3
    rw [N3.out.2]
    obtain ⟨ao3, c3, rfl, _, _, _⟩ := sn3
    obtain ⟨Y3, hY3⟩ : ∃ W, W = x3.alloc (.cells [.int .i64 (evenS a r).gen, .int .i64 (evenS a r).root, .int .i64 (evenS a r).next, .int .i64 (evenS a r).commit, .slice ao3 (evenS a r).snaps.length c3].toArray 59) := ⟨_, rfl⟩
    obtain ⟨bb3, hbb3⟩ : ∃ x, x = x3.heap.size := ⟨_, rfl⟩
    have D3 : Blk Y3 bb3 [.int .i64 (evenS a r).gen, .int .i64 (evenS a r).root, .int .i64 (evenS a r).next, .int .i64 (evenS a r).commit, .slice ao3 (evenS a r).snaps.length c3] 59 := by rw [hY3, hbb3]; exact Blk.new' _ _ _
    have kk3 : Keep [] Y2 Y3 := by rw [hY3]; exact k3.alloc _
    have KK3 : Keep [] w4 Y3 := KK2.trans kk3 (by simp)
    go_wp2_with fail
    try simp only [List.length_nil]
    rw [← hY3, ← hbb3]
    clear hY3 hbb3 k3
    refine (choose_any _ _ BO BO Y3 (rO.keep KK3 (by simp)) (rO.keep KK3 (by simp))).mono ?_
    rintro e x4 ⟨v4, rfl, sn4, k4⟩
    rw [N4.out.1] at sn4
    rw [N4.out.2]
    obtain ⟨ao4, c4, rfl, _, _, _⟩ := sn4
    obtain ⟨Y4, hY4⟩ : ∃ W, W = x4.alloc (.cells [.int .i64 (oddS b r).gen, .int .i64 (oddS b r).root, .int .i64 (oddS b r).next, .int .i64 (oddS b r).commit, .slice ao4 (oddS b r).snaps.length c4].toArray 59) := ⟨_, rfl⟩
    obtain ⟨bb4, hbb4⟩ : ∃ x, x = x4.heap.size := ⟨_, rfl⟩
    have D4 : Blk Y4 bb4 [.int .i64 (oddS b r).gen, .int .i64 (oddS b r).root, .int .i64 (oddS b r).next, .int .i64 (oddS b r).commit, .slice ao4 (oddS b r).snaps.length c4] 59 := by rw [hY4, hbb4]; exact Blk.new' _ _ _
    have kk4 : Keep [] Y3 Y4 := by rw [hY4]; exact k4.alloc _
    have KK4 : Keep [] w4 Y4 := KK3.trans kk4 (by simp)
    go_wp2_with fail
    try simp only [List.length_nil]
    rw [← hY4, ← hbb4]
    clear hY4 hbb4 k4
    refine (choose_any _ _ [] BO Y4 (rd_none _) (rO.keep KK4 (by simp))).mono ?_
    rintro e x5 ⟨v5, rfl, sn5, k5⟩
    rw [N5.out.1] at sn5
    rw [N5.out.2]
    obtain ⟨ao5, c5, rfl, _, _, _⟩ := sn5
    have J1 := ((kk2.trans kk3 (by simp)).trans kk4 (by simp)).trans k5 (by simp)
    have J0 := kk1.trans J1 (by simp)
    have J3 := kk4.trans k5 (by simp)
    have JB := K5.trans J0 (by simp)
    have u1 : x5.cell? ⟨bb1, 0, none⟩ = some (.int .i64 (2 + 2 * (a : Int))) := (D1.keep J1 (by simp)).cell 0
    have u2 : x5.cell? ⟨bb1, 1, none⟩ = some (.int .i64 (2 + (r : Int))) := (D1.keep J1 (by simp)).cell 1
    have u3 : x5.cell? ⟨b14, 0, none⟩ = some (.int .i64 (2 + 2 * (a : Int))) := (B14.keep J0 (by simp)).cell 0
    have u4 : x5.cell? ⟨b14, 1, none⟩ = some (.int .i64 (2 + (r : Int))) := (B14.keep J0 (by simp)).cell 1
    have u5 : x5.cell? ⟨bb3, 0, none⟩ = some (.int .i64 (2 + 2 * (a : Int))) := (D3.keep J3 (by simp)).cell 0
    have u6 : x5.cell? ⟨b8, 0, none⟩ = some (.int .i64 (2 + 2 * (a : Int))) := (B8b.keep JB (by simp)).cell 0
    have u7 : x5.cell? ⟨bb4, 0, none⟩ = some (.int .i64 (1 + 2 * (b : Int))) := (D4.keep k5 (by simp)).cell 0
    have u8 : x5.cell? ⟨b9, 0, none⟩ = some (.int .i64 (1 + 2 * (b : Int))) := (B9b.keep JB (by simp)).cell 0
    have l1 := (D1.keep J1 (by simp)).lt
    have l2 := (B14.keep J0 (by simp)).lt
    have l3 := (D3.keep J3 (by simp)).lt
    have l4 := (B8b.keep JB (by simp)).lt
    have l5 := (D4.keep k5 (by simp)).lt
    have l6 := (B9b.keep JB (by simp)).lt
    have z1 : (oddS b r).gen = 1 + 2 * (b : Int) := rfl
    clear D1 D2 D3 D4 B14 B8b B9b rO rE4 kk1 kk2 kk3 kk4 KK1 KK2 KK3 KK4 J0 J1 J3
    go_wp2
    go_ret
    exact ⟨rfl, (K4.trans JB (by simp)).alloc _⟩


theorem superNewer_readable : Try.f16.params.toList.all (fun t => Try.prog.readableRec t && decide (t < Try.prog.types.size)) = true := by kernel_rfl

open Go.ChangeShapes Go.WideShapes Go.ChangeAt in
set_option maxRecDepth 100000 in
theorem superNewer_contract (H : Type) (enc : TypeId × Value → H) (W : World) (base : Nat) (args : Array Value) (ds gs : List (DataW H)) (before : List MemPlace)
    (hval : ∀ (j : Nat) t v, Try.f16.params[j]? = some t → args[j]? = some v → Value.okWide Try.prog W .any base t v)
    (hW : DataW.Whole enc Try.prog Try.f16.params.toList Rows.superNewerSpec.vars false W args.toList ds gs before) :
    Calls Try.prog 16 args W fun e W' => ∃ v, e = .returned v ∧ Rows.superNewerSpec.post enc Try.prog Try.f16 false true false false W args v W' := by
  have hW' := hW
  obtain ⟨p, q, hA0, hV, rfl, _, _⟩ := hW
  have hA : DataW.TrodAll enc Try.prog W 0 (fun _ => true) true Try.f16.params.toList args.toList ds p := hA0
  rw [Try.params16] at hA hval
  obtain ⟨v0, v1, v2, d0, d1, d2, p0, p1, p2, rfl, rfl, rfl, h0, h1, h2⟩ := trodAll_three hA
  obtain ⟨rfl, rfl⟩ := trodVars_none hV
  obtain ⟨a0, rfl, rfl, rfl, w0⟩ := open_int Try.underlying3 (hval 0 3 v0 rfl rfl) h0
  obtain ⟨a1, rfl, rfl, rfl, w1⟩ := open_int Try.underlying3 (hval 1 3 v1 rfl rfl) h1
  obtain ⟨a2, rfl, rfl, rfl, w2⟩ := open_int Try.underlying3 (hval 2 3 v2 rfl rfl) h2
  refine (superNewer_walk a0 a1 a2 W).mono fun e W' ⟨he, hk⟩ => ?_
  subst he
  exact ⟨_, rfl, law_post Try.laidOut superNewer_readable rfl Try.underlying4 rfl hW' rfl hk.below0⟩

set_option maxRecDepth 100000 in
theorem superNewer_lifted (os : Os) (started : os.Started) (H : Type) (enc : TypeId × Value → H) :
    ReturnsInHanded {} Try.checked os 16 .any (Rows.superNewerSpec.pre6 enc Try.prog Try.f16 Rows.superNewerRow.domain false) (Rows.superNewerSpec.post enc Try.prog Try.f16 false true false false) := by
  refine returnsInHanded_of_change_sized (C := Try.checked) Try.own started (by kernel_rfl) Try.func16
    (ChangeSpec.witness6 (enc := enc) (C := Try.checked) false ⟨#[], #[.int .i64 0, .int .i64 0, .int .i64 0], []⟩ 8 (by kernel_rfl) (by kernel_rfl) (by kernel_rfl) (by kernel_rfl)) ?_
  intro W base args ds gs before hval hW _ _ _
  exact superNewer_contract H enc W base args ds gs before hval hW

theorem superNewer_holds : Rows.SuperNewerSaid :=
  OpenClaim.holds_of_wide 16 Try.f16 rfl rfl rfl rfl rfl rfl rfl ⟨rfl, rfl, rfl, rfl, rfl⟩ rfl rfl rfl rfl rfl (by kernel_rfl) Try.func16 (by kernel_rfl)
    (of_decide_eq_true (by kernel_rfl)) (by unfold Func.isWrapper; first | (rw [if_pos (by decide +kernel)]; kernel_rfl) | (rw [if_neg (by decide +kernel)]; exact ⟨rfl, rfl⟩))
    (fun os started H enc _ => superNewer_lifted os started H enc)

#print axioms superNewer_holds
end Go.Proofs.Yteogkgjajhdhjaa
