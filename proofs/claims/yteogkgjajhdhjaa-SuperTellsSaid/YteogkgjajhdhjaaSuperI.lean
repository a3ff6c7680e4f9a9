/-
  Layer 4's laws: shown: what must be in any case. No condition.
-/
import Derived.Test.YteogkgjajhdhjaaSuperH
import Derived.Test.YteogkgjajhdhjaaSuperP
import Derived.Test.YteogkgjajhdhjaaPackH
namespace Go.Proofs.Yteogkgjajhdhjaa
open Go.RowKit

def s1 : Sp.Su := ⟨1, 0, 2, 0, []⟩
theorem s1_right : Sp.right s1 = true := by decide +kernel
theorem s1_of : Sp.of (Sp.block s1) = some s1 := Sp.of_complete s1_right
theorem s0_right : Sp.right ⟨0, 0, 0, 0, []⟩ = false := by decide +kernel
theorem s1_len : (Sp.block s1).length = 512 := Sp.block_length (Sp.right_bd s1_right)
theorem s1_take : (Sp.block s1).take 20 = [0, 0, 0, 0, 0, 0, 0, 1, 87, 65, 73, 78, 0, 0, 0, 0, 0, 0, 0, 2] := by decide +kernel
theorem s1_last : (Sp.block s1)[511]? = some 1 := by decide +kernel
theorem of_nil : Sp.of [] = none := by unfold Sp.of; rw [if_neg (fun h => by cases h.1)]
theorem ofS_some {l : List UInt8} {s : Sp.Su} (h : Sp.of l = some s) : ofS l = s ∧ ofE l = 0 := by unfold ofS ofE; rw [h]; exact ⟨rfl, rfl⟩
theorem ofS_none {l : List UInt8} (h : Sp.of l = none) : ofS l = ⟨0, 0, 0, 0, []⟩ ∧ ofE l = 12 := by unfold ofS ofE; rw [h]; exact ⟨rfl, rfl⟩
theorem choose_1 : chooseS [] (Sp.block s1) = s1 ∧ chooseE [] (Sp.block s1) = 0 := by
  obtain ⟨a1, a2⟩ := ofS_some s1_of
  obtain ⟨b1, b2⟩ := ofS_none of_nil
  have h : chooseS [] (Sp.block s1) = s1 := by
    unfold chooseS bestAt bestOf takenB
    rw [a1, a2, b1, b2]
    rfl
  refine ⟨h, ?_⟩
  unfold chooseE
  rw [h]
  rfl
theorem choose_0 : chooseS (Sp.block s1) [] = ⟨0, 0, 0, 0, []⟩ ∧ chooseE (Sp.block s1) [] = 12 := by
  obtain ⟨a1, a2⟩ := ofS_some s1_of
  obtain ⟨b1, b2⟩ := ofS_none of_nil
  have h : chooseS (Sp.block s1) [] = ⟨0, 0, 0, 0, []⟩ := by
    unfold chooseS bestAt bestOf takenB
    rw [a1, a2, b1, b2]
    rfl
  refine ⟨h, ?_⟩
  unfold chooseE
  rw [h]
  rfl

theorem rd_none (w : World) : RdV w (.slice none 0 0) ([] : List UInt8).length 1 (bv []) := rd_nil w
theorem su_s (w : World) (g r n c : Int) : SuV w (.agg #[.int .i64 g, .int .i64 r, .int .i64 n, .int .i64 c, .slice none 0 0]) ⟨g, r, n, c, []⟩ :=
  ⟨none, 0, rfl, ⟨rfl, none, 0, rfl, Nat.le_refl _, fun _ => ⟨rfl, rfl⟩, fun a ha => by cases ha⟩, Nat.zero_le _⟩

set_option maxRecDepth 100000 in
set_option maxHeartbeats 3200000 in
theorem shown4_any (w : World) : Calls Try.prog 51 #[] w fun e w' => e = .returned (.bool true) ∧ Keep [] w w' := by
  obtain ⟨B, hB⟩ : ∃ B, B = Sp.block s1 := ⟨_, rfl⟩
  have hlen : B.length = 512 := by rw [hB]; exact s1_len
  have HB := Lib.hid hB
  go_enter Try.func51, Try.ntmps51
  go_wp2_with fail
  refine (bytes_ok s1 _ w (su_s _ 1 0 2 0) s1_right).mono ?_
  rintro e wa ⟨ao, c, rfl, o1, ka, ra⟩
  rw [← hB] at o1
  have HL := Lib.hid hlen
  have r1 : RdV wa (.slice ao 512 c) B.length 1 (bv B) := by rw [hlen]; exact RdV.ofOwn o1
  clear hB hlen o1 ra
  go_wp2_with fail
  refine (of_any _ B wa r1).mono ?_
  rintro e wb ⟨v2, rfl, sn2, kb⟩
  have hs2 := ofS_some (HB.out ▸ s1_of)
  rw [hs2.1] at sn2
  rw [hs2.2]
  obtain ⟨ao2, c2, rfl, _, _, _⟩ := sn2
  clear hs2
  have B3 := Blk.new' wb [.int .i64 s1.gen, .int .i64 s1.root, .int .i64 s1.next, .int .i64 s1.commit, .slice ao2 s1.snaps.length c2] 59
  obtain ⟨W3, hW3⟩ : ∃ W, W = wb.alloc (.cells [.int .i64 s1.gen, .int .i64 s1.root, .int .i64 s1.next, .int .i64 s1.commit, .slice ao2 s1.snaps.length c2].toArray 59) := ⟨_, rfl⟩
  have K3 : Keep [] wa W3 := by rw [hW3]; exact kb.alloc _
  obtain ⟨b3, hb3⟩ : ∃ b, b = wb.heap.size := ⟨_, rfl⟩
  rw [← hW3, ← hb3] at B3
  go_wp2_with fail
  rw [← hb3, ← hW3]
  clear hW3 hb3 kb
  refine (of_any _ [] _ (rd_none _)).mono ?_
  rintro e wc ⟨v3, rfl, sn3, kc⟩
  rw [(ofS_none of_nil).1] at sn3
  rw [(ofS_none of_nil).2]
  obtain ⟨ao3, c3, rfl, _, _, _⟩ := sn3
  obtain ⟨W5, hW5⟩ : ∃ W, W = wc.alloc (.cells [.int .i64 0, .int .i64 0, .int .i64 0, .int .i64 0, .slice ao3 0 c3].toArray 59) := ⟨_, rfl⟩
  have K5 : Keep [] W3 W5 := by rw [hW5]; exact kc.alloc _
  go_wp2_with fail
  try simp only [List.length_nil]
  rw [← hW5]
  clear hW5 kc
  have K15 := K3.trans K5 (by simp)
  refine (choose_any _ _ [] B W5 (rd_none _) (r1.keep K15 (by simp))).mono ?_
  rintro e wd ⟨v4, rfl, sn4, kd⟩
  rw [show chooseS [] B = s1 by rw [HB.out]; exact choose_1.1] at sn4
  rw [show chooseE [] B = 0 by rw [HB.out]; exact choose_1.2]
  obtain ⟨ao4, c4, rfl, _, _, _⟩ := sn4
  have B7 := Blk.new' wd [.int .i64 s1.gen, .int .i64 s1.root, .int .i64 s1.next, .int .i64 s1.commit, .slice ao4 s1.snaps.length c4] 59
  obtain ⟨W7, hW7⟩ : ∃ W, W = wd.alloc (.cells [.int .i64 s1.gen, .int .i64 s1.root, .int .i64 s1.next, .int .i64 s1.commit, .slice ao4 s1.snaps.length c4].toArray 59) := ⟨_, rfl⟩
  have K7 : Keep [] W5 W7 := by rw [hW7]; exact kd.alloc _
  obtain ⟨b7, hb7⟩ : ∃ b, b = wd.heap.size := ⟨_, rfl⟩
  rw [← hW7, ← hb7] at B7
  go_wp2_with fail
  rw [← hb7, ← hW7]
  clear hW7 hb7 kd
  have K17 := K15.trans K7 (by simp)
  refine (choose_any _ _ B [] W7 (r1.keep K17 (by simp)) (rd_none _)).mono ?_
  rintro e we ⟨v5, rfl, sn5, ke⟩
  rw [show chooseS B [] = ⟨0, 0, 0, 0, []⟩ by rw [HB.out]; exact choose_0.1] at sn5
  rw [show chooseE B [] = 12 by rw [HB.out]; exact choose_0.2]
  obtain ⟨ao5, c5, rfl, _, _, _⟩ := sn5
  obtain ⟨W9, hW9⟩ : ∃ W, W = we.alloc (.cells [.int .i64 0, .int .i64 0, .int .i64 0, .int .i64 0, .slice ao5 0 c5].toArray 59) := ⟨_, rfl⟩
  have K9 : Keep [] W7 W9 := by rw [hW9]; exact ke.alloc _
  go_wp2_with fail
  try simp only [List.length_nil]
  rw [← hW9]
  clear hW9 ke
  refine (bytes_no ⟨0, 0, 0, 0, []⟩ _ W9 (su_s _ 0 0 0 0) s0_right).mono ?_
  rintro e wf ⟨rfl, kf⟩
  have K19 := K17.trans (K9.trans kf (by simp)) (by simp)
  have r9 := r1.keep K19 (by simp)
  have B3f := ((B3.keep K5 (by simp)).keep K7 (by simp)).keep (K9.trans kf (by simp)) (by simp)
  have B7f := B7.keep (K9.trans kf (by simp)) (by simp)
  obtain ⟨hl9, ao9, c9, e9, hc9, hnn9, hx9⟩ := r9
  injection e9 with q1 q2 q3
  subst q1 q3
  clear q2
  have r20 := rd_take (m := 20) (l := B) (w := wf) (by rw [HL.out] at hc9; rw [HL.out]; exact hc9) (by rw [HL.out]; omega) hnn9 hx9
  rw [show B.take 20 = [0, 0, 0, 0, 0, 0, 0, 1, 87, 65, 73, 78, 0, 0, 0, 0, 0, 0, 0, 2] by rw [HB.out]; exact s1_take] at r20
  have cv := conv_str (l := [0, 0, 0, 0, 0, 0, 0, 1, 87, 65, 73, 78, 0, 0, 0, 0, 0, 0, 0, 2]) r20
  have p3 := B3f.cell 0
  have p4 := B3f.cell 2
  have p7 := B7f.cell 0
  simp only [List.getElem?_cons_zero, List.getElem?_cons_succ] at p3 p4 p7
  have e1 : s1.gen = 1 := rfl
  have e2 : s1.next = 2 := rfl
  rw [e1] at p3 p7
  rw [e2] at p4
  obtain ⟨a, rfl⟩ : ∃ a, ao = some a := by
    cases ao with
    | none => have := (hnn9 rfl).1; rw [HL.out] at this; omega
    | some a => exact ⟨a, rfl⟩
  have hcc : 512 ≤ c := by rw [HL.out] at hc9; exact hc9
  have c511 : wf.cell? (a.add 511) = some (.int .u8 1) := hx9 a rfl 511 _ (by rw [bv_get, HB.out, s1_last]; rfl)
  have c511' : wf.cell? ⟨a.block, a.off + 511, none⟩ = some (.int .u8 1) := by have := c511; simpa [Addr.add] using this
  clear c511
  have hcmp : ((txt [0, 0, 0, 0, 0, 0, 0, 1, 87, 65, 73, 78, 0, 0, 0, 0, 0, 0, 0, 2]).toList == [0, 0, 0, 0, 0, 0, 0, 1, 87, 65, 73, 78, 0, 0, 0, 0, 0, 0, 0, 2]) = true := by rw [Lib.toList_data]; rfl
  clear hx9 hnn9 hl9 r20 r1 B3 B7 B3f B7f e1 e2
  go_wp2
  go_ret
  exact ⟨rfl, ka.trans K19 (by simp)⟩
end Go.Proofs.Yteogkgjajhdhjaa
