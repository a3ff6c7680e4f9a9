/-
  SuperBack: what is written is read as it was: the law returns true, for any superblock, place and turn. No condition.
-/
import Derived.Test.YteogkgjajhdhjaaSuperL
namespace Go.Proofs.Yteogkgjajhdhjaa
open Go.RowKit

set_option maxRecDepth 100000 in
set_option maxHeartbeats 6400000 in
theorem superBack_walk (s0 : Sp.Su) (v : Value) (at' turn : Int) (w : World) (h : SuV w v s0) (ht0 : 0 ≤ turn) (ht1 : turn ≤ 255) :
    Calls Try.prog 12 #[v, .int .i64 at', .int .u8 turn] w fun e w' => e = .returned (.bool true) ∧ Keep [] w w' := by
  have h0 := h
  obtain ⟨ao0, c0, rfl, _, _⟩ := h0
  obtain ⟨i0, hi, hz0, hz1, hz2⟩ := info_parts Try.info5
  go_enter Try.func12, Try.ntmps12
  go_wp2_with fail
  refine (shown4_any _).mono ?_
  rintro e w1 ⟨rfl, k1⟩
  obtain ⟨b3, hb3⟩ : ∃ b, b = w.heap.size := ⟨_, rfl⟩
  have B3 := (Blk.new' w [.int .i64 s0.gen, .int .i64 s0.root, .int .i64 s0.next, .int .i64 s0.commit, .slice ao0 s0.snaps.length c0] 59).keep k1 (by simp)
  have K1 : Keep [] w w1 := ((Keep.refl _ _).alloc _).trans k1 (by simp)
  rw [← hb3] at B3 ⊢
  have HB := Lib.hid hb3
  have q0 := B3.cell 0
  have q1 := B3.cell 1
  have q2 := B3.cell 2
  have q3 := B3.cell 3
  have q4 := B3.cell 4
  simp only [List.getElem?_cons_zero, List.getElem?_cons_succ] at q0 q1 q2 q3 q4
  clear hb3 k1
  go_wp2_with fail
  refine (cut_any s0 _ w1 (h.keep K1 (by simp))).mono ?_
  rintro e w2 ⟨ao, c, rfl, rd2, fp2, k2⟩
  obtain ⟨s, hs⟩ : ∃ s, s = Sp.cutS s0 := ⟨_, rfl⟩
  have g_eq : s0.gen = s.gen ∧ s0.root = s.root ∧ s0.next = s.next ∧ s0.commit = s.commit := by rw [hs]; exact ⟨rfl, rfl, rfl, rfl⟩
  have hle : s.snaps.length ≤ 10 := by rw [hs]; exact cutS_le s0
  rw [← hs] at rd2 fp2 ⊢
  rw [g_eq.1, g_eq.2.1, g_eq.2.2.1, g_eq.2.2.2]
  clear hs g_eq q0 q1 q2 q3 q4
  have B3b := B3.keep k2 (by simp)
  obtain ⟨w3, hw3, B3c, k3⟩ := set5 B3b (.int .i64 s.gen) (.int .i64 s.root) (.int .i64 s.next) (.int .i64 s.commit) (.slice ao s.snaps.length c)
  have p0 := B3b.cell 0
  have p1 := B3b.cell 1
  have p2 := B3b.cell 2
  have p3 := B3b.cell 3
  have p4 := B3b.cell 4
  simp only [List.getElem?_cons_zero, List.getElem?_cons_succ] at p0 p1 p2 p3 p4
  have f0 := B3b.free 0
  have f1 := B3b.free 1
  have f2 := B3b.free 2
  have f3 := B3b.free 3
  have f4 := B3b.free 4
  have hb31 : b3 < w1.heap.size := B3.lt
  have SN : SuN w1.heap.size w3 (.agg #[.int .i64 s.gen, .int .i64 s.root, .int .i64 s.next, .int .i64 s.commit, .slice ao s.snaps.length c]) s := (SuN.of rd2 (by omega) fp2).keep k3 (by simp; omega)
  have K3 : Keep [] w w3 := (K1.trans k2 (by simp)).trans k3 (fun x hx => by simp at hx; subst hx; right; have := HB.out; omega)
  have HW3 := Lib.hid hw3
  clear hw3 rd2 fp2 B3 B3b k3 k2 K1
  go_wp2_with fail
  rw [← HW3.out]
  clear p0 p1 p2 p3 p4 f0 f1 f2 f3 f4 HW3
  cases hr : Sp.right s with
  | false =>
    refine (bytes_no s _ w3 SN.su hr).mono ?_
    rintro e w4 ⟨rfl, k4⟩
    have B4 := B3c.keep k4 (by simp)
    have q0 := B4.cell 0
    have q1 := B4.cell 1
    have q2 := B4.cell 2
    have q3 := B4.cell 3
    have q4 := B4.cell 4
    simp only [List.getElem?_cons_zero, List.getElem?_cons_succ] at q0 q1 q2 q3 q4
    go_wp2_with fail
    refine (right_any s _ w4 (SN.keep k4 (by simp)).su).mono ?_
    rintro e w5 ⟨rfl, k5⟩
    rw [hr]
    go_wp2
    go_ret
    exact ⟨rfl, (K3.trans k4 (by simp)).trans k5 (by simp)⟩
  | true =>
    obtain ⟨B, hB⟩ : ∃ B, B = Sp.block s := ⟨_, rfl⟩
    have hlen : B.length = 512 := by rw [hB]; exact Sp.block_length (Sp.right_bd hr)
    have HBL := Lib.hid hB
    have HL := Lib.hid hlen
    refine (bytes_ok s _ w3 SN.su hr).mono ?_
    rintro e w4 ⟨aoB, cB, rfl, o4, k4, r4⟩
    rw [← hB] at o4
    have r4 : RdV w4 (.slice aoB 512 cB) B.length 1 (bv B) := by rw [hlen]; exact RdV.ofOwn o4
    clear hB hlen o4
    have B4 := B3c.keep k4 (by simp)
    have q0 := B4.cell 0
    have q1 := B4.cell 1
    have q2 := B4.cell 2
    have q3 := B4.cell 3
    have q4 := B4.cell 4
    simp only [List.getElem?_cons_zero, List.getElem?_cons_succ] at q0 q1 q2 q3 q4
    go_wp2_with fail
    refine (right_any s _ w4 (SN.keep k4 (by simp)).su).mono ?_
    rintro e w5 ⟨rfl, k5⟩
    rw [hr]
    clear q0 q1 q2 q3 q4
    go_wp2_with fail
    refine (of_any _ B w5 (r4.keep k5 (by simp))).mono ?_
    rintro e w6 ⟨v6, rfl, sn6, k6⟩
    have hs6 := of_block hr
    rw [← HBL.out] at hs6
    rw [hs6.1] at sn6
    rw [hs6.2]
    clear hs6
    have SN5 := (SN.keep k4 (by simp)).keep k5 (by simp)
    obtain ⟨ao6, c6, rfl, rd6, le6, fp6⟩ := sn6
    obtain ⟨W6, hW6⟩ : ∃ W, W = w6.alloc (.cells [.int .i64 s.gen, .int .i64 s.root, .int .i64 s.next, .int .i64 s.commit, .slice ao6 s.snaps.length c6].toArray 59) := ⟨_, rfl⟩
    have K6 : Keep [] w5 W6 := by rw [hW6]; exact k6.alloc _
    have kk6 : Keep [] w6 W6 := by rw [hW6]; exact (Keep.refl _ _).alloc _
    have B6 := (B4.keep k5 (by simp)).keep k6 (by simp)
    have q0 := B6.cell 0
    have q1 := B6.cell 1
    have q2 := B6.cell 2
    have q3 := B6.cell 3
    have q4 := B6.cell 4
    simp only [List.getElem?_cons_zero, List.getElem?_cons_succ] at q0 q1 q2 q3 q4
    have hb36 := B6.lt
    go_wp2_with fail
    rw [← hW6]
    refine (same_any s s _ _ W6 (SN5.keep K6 (by simp)).su ⟨ao6, c6, rfl, rd6.keep kk6 (by simp), le6⟩).mono ?_
    rintro e w7 ⟨rfl, k7⟩
    rw [Sp.sameB_self]
    have K37 : Keep [] w3 w7 := ((k4.trans k5 (by simp)).trans K6 (by simp)).trans k7 (by simp)
    have r7 := (r4.keep k5 (by simp)).keep (K6.trans k7 (by simp)) (by simp)
    have B7 := (B6.keep kk6 (by simp)).keep k7 (by simp)
    clear q0 q1 q2 q3 q4 hW6 kk6 rd6 fp6 r4 K6 k6 k5 B4 SN5 B6 hb36 le6
    obtain ⟨hl7, aoX, cX, eX, hcX, hnnX, hxX⟩ := r7
    injection eX with z1 z2 z3
    subst z1 z3
    clear z2
    rw [HL.out] at hcX
    have r511 := rd_take (m := 511) (l := B) (w := w7) (by rw [HL.out]; exact hcX) (by rw [HL.out]; omega) hnnX hxX
    have R7 := Lib.hid (show RdV w7 (.slice aoB 512 cB) B.length 1 (bv B) from ⟨hl7, aoB, cB, by rw [HL.out], by rw [HL.out]; exact hcX, hnnX, hxX⟩)
    have r511' : RdV w7 (.slice aoB 511 cB) (B.take 511).length 1 (bv (B.take 511)) := by rw [List.length_take, HL.out]; exact r511
    clear r511 hl7 hnnX hxX
    go_wp2_with fail
    refine (of_any _ (B.take 511) w7 r511').mono ?_
    rintro e w8 ⟨v8, rfl, sn8, k8⟩
    have h511 := ofS_len (B.take 511) (by rw [List.length_take, HL.out]; decide)
    rw [h511.1] at sn8
    rw [h511.2]
    clear h511 r511'
    obtain ⟨ao8, c8, rfl, _, _, _⟩ := sn8
    obtain ⟨W8, hW8⟩ : ∃ W, W = w8.alloc (.cells [.int .i64 0, .int .i64 0, .int .i64 0, .int .i64 0, .slice ao8 0 c8].toArray 59) := ⟨_, rfl⟩
    have K8 : Keep [] w7 W8 := by rw [hW8]; exact k8.alloc _
    have hs8 : W8.heap.size = w8.heap.size + 1 := by rw [hW8]; simp
    have O8 := ownsRow_made0 W8 5 1
    have K9 : Keep [] w7 (W8.alloc (.cells #[] 5)) := K8.alloc _
    have R9 := R7.out.keep K9 (by simp)
    obtain ⟨hl9, aoX, cX, eX, _, hnn9, hx9⟩ := R9
    injection eX with z1 z2 z3
    subst z1 z3
    clear z2
    have NL := Lib.hid (show (bv B).length = 512 * 1 by rw [hl9, HL.out])
    have NN := Lib.hid (show aoB = none → 512 = 0 ∧ cB = 0 from fun h => by have := hnn9 h; rw [HL.out] at this; omega)
    have NX := Lib.hid hx9
    have HS8 := Lib.hid hs8
    have HW8 := Lib.hid hW8
    rw [hs8] at O8
    clear hl9 hnn9 hx9 hs8 hW8 k8
    go_wp2_with (first
      | (at_builtin; rw [← HW8.out]; refine wpList_app rfl (.tmp 72) (.tmp 73) 27 27 rfl _ _ rfl rfl (run_app_slice _ 27 _ 5 i0 _ 1 1 Try.underlying27 hi hz0 hz1 hz2 rfl (by decide) _ 0 [] O8 aoB 512 cB (bv B) NL.out NN.out NX.out (bv_one B) (by unfold maxLen; omega) (by omega)) ?_; intro v2 w10 hO; rw [Nat.zero_add, List.nil_append] at hO; obtain ⟨ao2, cp2, rfl⟩ := hO.slice)
      | (at_builtin; refine wpList_app rfl (.tmp 74) (.tmp 75) 27 27 rfl _ _ rfl rfl (run_app_slice _ 27 _ 5 i0 _ 1 1 Try.underlying27 hi hz0 hz1 hz2 rfl (by decide) _ 512 _ (hO.1.alloc _) (some ⟨w10.heap.size, 0, none⟩) 1 1 [.int .u8 0] rfl (fun h => by cases h) (by intro a ha; cases ha; exact World.news_of_block (heap_alloc_new _ _)) (by simp [Value.oneCell']) (by unfold maxLen; omega) (by omega)) ?_; intro v3 w12 hO2; obtain ⟨ao3, cp3, rfl⟩ := hO2.slice))
    have M1 := hO.keeps K9 (by intro x hx; have := K8.size; have := HS8.out; simp [rowOf, Value.ownBlock] at hx; omega)
    have M2 := hO2.keeps (M1.1.alloc (.cells #[.int .u8 0] 5)) M1.2
    have K12 := M2.1
    have r12 : RdV w12 (.slice ao3 513 cp3) (B ++ [0]).length 1 (bv (B ++ [0])) := by
      have := RdV.ofOwn hO2.1
      rw [List.length_append, HL.out, bv_append]
      exact this
    clear hO hO2 M1 M2 O8 NN NX K8 HS8 HW8 K9
    refine (of_any _ (B ++ [0]) w12 r12).mono ?_
    rintro e w13 ⟨v13, rfl, sn13, k13⟩
    have h513 := ofS_len (B ++ [0]) (by rw [List.length_append, HL.out]; decide)
    rw [h513.1] at sn13
    rw [h513.2]
    clear h513 r12
    obtain ⟨ao13, c13, rfl, _, _, _⟩ := sn13
    obtain ⟨W13, hW13⟩ : ∃ W, W = w13.alloc (.cells [.int .i64 0, .int .i64 0, .int .i64 0, .int .i64 0, .slice ao13 0 c13].toArray 59) := ⟨_, rfl⟩
    have K13 : Keep [] w7 W13 := by rw [hW13]; exact (K12.trans k13 (by simp)).alloc _
    have hs13 : W13.heap.size = w13.heap.size + 1 := by rw [hW13]; simp
    have HW13 := Lib.hid hW13
    have HS13 := Lib.hid hs13
    clear hW13 k13 K12
    by_cases hturn : turn = 0
    · subst hturn
      clear hs13
      go_wp2
      go_ret
      exact ⟨rfl, by rw [← HW13.out]; exact (K3.trans K37 (by simp)).trans K13 (by simp)⟩
    · have htb : (turn == 0) = false := by rw [beq_eq_false_iff_ne]; exact hturn
      have HT := Lib.hid hturn
      have O13 := ownsRow_made0 W13 5 1
      rw [hs13] at O13
      have K14 : Keep [] w7 (W13.alloc (.cells #[] 5)) := K13.alloc _
      have R14 := R7.out.keep K14 (by simp)
      obtain ⟨hl14, aoX, cX, eX, _, hnn14, hx14⟩ := R14
      injection eX with z1 z2 z3
      subst z1 z3
      clear z2
      have NN := Lib.hid (show aoB = none → 512 = 0 ∧ cB = 0 from fun h => by have := hnn14 h; rw [HL.out] at this; omega)
      have NX := Lib.hid hx14
      clear hturn hs13 hl14 hnn14 hx14
      go_wp2_with (at_builtin; rw [← HW13.out]; refine wpList_app rfl (.tmp 99) (.tmp 100) 27 27 rfl _ _ rfl rfl (run_app_slice _ 27 _ 5 i0 _ 1 1 Try.underlying27 hi hz0 hz1 hz2 rfl (by decide) _ 0 [] O13 aoB 512 cB (bv B) NL.out NN.out NX.out (bv_one B) (by unfold maxLen; omega) (by omega)) ?_; intro v2 w14 hO; rw [Nat.zero_add, List.nil_append] at hO; rcases slice_own hO.1 with ⟨_, h0⟩ | ⟨gO, cO, rfl, hgO⟩; (exact absurd h0 (by omega)); obtain ⟨m, hm, hm1, hm2⟩ := mask9 at'; clear hm2; obtain ⟨x, hx⟩ : ∃ x, B[m]? = some x := ⟨_, List.getElem?_eq_getElem (by rw [HL.out]; omega)⟩; obtain ⟨oc1, oc2, oc3⟩ := own_cell hO.1 hx; have HX := Lib.hid hx; clear hx; obtain ⟨y, hy⟩ : ∃ y, y = UInt8.ofNat (x.toNat ^^^ turn.toNat) := ⟨_, rfl⟩; have hxl := x.toNat_lt; have hxor : bits BinOp.xor IntKind.u8 (x.toNat : Int) turn = (y.toNat : Int) := (by rw [u8_xor _ _ (by omega) (by omega) ht0 (by omega), hy, UInt8.toNat_ofNat', Int.toNat_natCast]; have h3 : x.toNat ^^^ turn.toNat < 2 ^ 8 := Nat.xor_lt_two_pow (by omega) (by omega); rw [Nat.mod_eq_of_lt h3]); have HY := Lib.hid hy; clear hy; have hmI : (m : Int) < 512 := (by omega))
      have M1 := hO.keeps K14 (by intro x hx; have := K13.size; have := HS13.out; simp [rowOf, Value.ownBlock] at hx; omega)
      have hgW : w7.heap.size ≤ gO := M1.2 gO (by simp [rowOf, Value.ownBlock])
      have K15 := M1.1.setCell (p := ⟨gO, m, none⟩) (Or.inr hgW) (.int .u8 (y.toNat : Int))
      have r15 := RdV.ofOwn (oc3 y)
      have hl15 : (B.set m y).length = 512 := by rw [List.length_set, HL.out]
      have HL15 := Lib.hid hl15
      have r15' : RdV (w14.setCell ⟨gO, m, none⟩ (.int .u8 (y.toNat : Int))) (.slice (some ⟨gO, 0, none⟩) 512 cO) (B.set m y).length 1 (bv (B.set m y)) := by rw [hl15]; exact r15
      clear oc1 oc2 oc3 r15 hl15 hO M1 O13 NN NX K14 K13 HW13 HS13
      refine (of_any _ (B.set m y) _ r15').mono ?_
      rintro e w16 ⟨v16, rfl, sn16, k16⟩
      have hec := ofE_cases (B.set m y)
      have hne : ofS (B.set m y) ≠ s := ofS_ne hr (by
        rw [← HBL.out, HY.out]
        exact fun h => turned_ne HX.out (by have := HT.out; omega) (by omega) h.symm)
      obtain ⟨u, hu⟩ : ∃ u, u = ofS (B.set m y) := ⟨_, rfl⟩
      obtain ⟨ec, hecc⟩ : ∃ x, x = ofE (B.set m y) := ⟨_, rfl⟩
      rw [← hu] at sn16 hne
      rw [← hecc] at hec ⊢
      clear hu hecc r15'
      have K16 := K15.trans k16 (by simp)
      obtain ⟨ao16, c16, rfl, rd16, le16, _⟩ := sn16
      obtain ⟨W16, hW16⟩ : ∃ W, W = w16.alloc (.cells [.int .i64 u.gen, .int .i64 u.root, .int .i64 u.next, .int .i64 u.commit, .slice ao16 u.snaps.length c16].toArray 59) := ⟨_, rfl⟩
      have kk : Keep [] w16 W16 := by rw [hW16]; exact (Keep.refl _ _).alloc _
      have B16 := B7.keep K16 (by simp)
      have q0 := B16.cell 0
      have q1 := B16.cell 1
      have q2 := B16.cell 2
      have q3 := B16.cell 3
      have q4 := B16.cell 4
      simp only [List.getElem?_cons_zero, List.getElem?_cons_succ] at q0 q1 q2 q3 q4
      have hb16 := B16.lt
      clear k16 K15
      have K7W := K16.trans kk (by simp)
      go_wp2_with fail
      rw [← hW16]
      refine (same_any u s _ _ W16 ⟨ao16, c16, rfl, rd16.keep kk (by simp), le16⟩ ((SN.keep K37 (by simp)).keep K7W (by simp)).su).mono ?_
      rintro e w17 ⟨rfl, k17⟩
      rw [Sp.sameB_ne hne]
      clear hW16 q0 q1 q2 q3 q4
      rcases hec with rfl | rfl
      all_goals
        go_wp2
        go_ret
        exact ⟨rfl, (K3.trans K37 (by simp)).trans (K7W.trans k17 (by simp)) (by simp)⟩


theorem superBack_readable : Try.f12.params.toList.all (fun t => Try.prog.readableRec t && decide (t < Try.prog.types.size)) = true := by kernel_rfl

open Go.ChangeShapes Go.WideShapes Go.ChangeAt in
set_option maxRecDepth 100000 in
theorem superBack_contract (H : Type) (enc : TypeId × Value → H) (W : World) (base : Nat) (args : Array Value) (ds gs : List (DataW H)) (before : List MemPlace)
    (hval : ∀ (j : Nat) t v, Try.f12.params[j]? = some t → args[j]? = some v → Value.okWide Try.prog W .any base t v)
    (hW : DataW.Whole enc Try.prog Try.f12.params.toList Rows.superBackSpec.vars false W args.toList ds gs before) :
    Calls Try.prog 12 args W fun e W' => ∃ v, e = .returned v ∧ Rows.superBackSpec.post enc Try.prog Try.f12 false true false false W args v W' := by
  have hW' := hW
  obtain ⟨p, q, hA0, hV, rfl, _, _⟩ := hW
  have hA : DataW.TrodAll enc Try.prog W 0 (fun _ => true) true Try.f12.params.toList args.toList ds p := hA0
  rw [Try.params12] at hA hval
  obtain ⟨v0, v1, v2, d0, d1, d2, p0, p1, p2, rfl, rfl, rfl, h0, h1, h2⟩ := trodAll_three hA
  obtain ⟨rfl, rfl⟩ := trodVars_none hV
  obtain ⟨s, hs, hw⟩ := open_super Try.underlying59 (by kernel_rfl) rfl rfl rfl rfl rfl (by kernel_rfl) (by kernel_rfl) (by kernel_rfl) (by kernel_rfl) (by kernel_rfl) Try.underlying3 Try.underlying3 Try.underlying3 Try.underlying3 Try.underlying57 Try.underlying81 (by kernel_rfl) rfl rfl rfl (by kernel_rfl) (by kernel_rfl) (by kernel_rfl) Try.underlying9 Try.underlying3 Try.underlying3 (hval 0 59 v0 rfl rfl) h0
  obtain ⟨a1, rfl, rfl, rfl, w1⟩ := open_int Try.underlying3 (hval 1 3 v1 rfl rfl) h1
  obtain ⟨a2, rfl, rfl, rfl, w2⟩ := open_int Try.underlying5 (hval 2 5 v2 rfl rfl) h2
  refine (superBack_walk s v0 a1 a2 W hs (wf_u8 w2).1 (wf_u8 w2).2).mono fun e W' ⟨he, hk⟩ => ?_
  subst he
  exact ⟨_, rfl, law_post Try.laidOut superBack_readable rfl Try.underlying4 rfl hW' rfl hk.below0⟩

set_option maxRecDepth 100000 in
theorem superBack_lifted (os : Os) (started : os.Started) (H : Type) (enc : TypeId × Value → H) :
    ReturnsInHanded {} Try.checked os 12 .any (Rows.superBackSpec.pre6 enc Try.prog Try.f12 Rows.superBackRow.domain false) (Rows.superBackSpec.post enc Try.prog Try.f12 false true false false) := by
  refine returnsInHanded_of_change_sized (C := Try.checked) Try.own started (by kernel_rfl) Try.func12
    (ChangeSpec.witness6 (enc := enc) (C := Try.checked) false ⟨#[], #[.agg #[.int .i64 0, .int .i64 0, .int .i64 0, .int .i64 0, .slice none 0 0], .int .i64 0, .int .u8 0], []⟩ 8 (by kernel_rfl) (by kernel_rfl) (by kernel_rfl) (by kernel_rfl)) ?_
  intro W base args ds gs before hval hW _ _ _
  exact superBack_contract H enc W base args ds gs before hval hW

theorem superBack_holds : Rows.SuperBackSaid :=
  OpenClaim.holds_of_wide 12 Try.f12 rfl rfl rfl rfl rfl rfl rfl ⟨rfl, rfl, rfl, rfl, rfl⟩ rfl rfl rfl rfl rfl (by kernel_rfl) Try.func12 (by kernel_rfl)
    (of_decide_eq_true (by kernel_rfl)) (by unfold Func.isWrapper; first | (rw [if_pos (by decide +kernel)]; kernel_rfl) | (rw [if_neg (by decide +kernel)]; exact ⟨rfl, rfl⟩))
    (fun os started H enc _ => superBack_lifted os started H enc)

#print axioms superBack_holds
end Go.Proofs.Yteogkgjajhdhjaa
