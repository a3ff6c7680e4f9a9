/-
  SuperTells: a superblock may be, or not, and has its block; a block is one's, or none's, as the document says: the law returns true, for any superblock and any text. No condition.
-/
import Derived.Test.YteogkgjajhdhjaaSuperChooses
import Derived.Test.YteogkgjajhdhjaaSuperS
namespace Go.Proofs.Yteogkgjajhdhjaa
open Go.RowKit

theorem cutN_any (s0 : Sp.Su) (v : Value) (w : World) (h : SuV w v s0) : Calls Try.prog 52 #[v] w fun e w' => ∃ v', e = .returned v' ∧ SuN w.heap.size w' v' (Sp.cutS s0) ∧ Keep [] w w' := by
  refine (cut_any s0 v w h).mono ?_
  rintro e w' ⟨ao, c, rfl, rd, fp, k⟩
  exact ⟨_, rfl, SuN.of rd (by have := cutS_le s0; omega) fp, k⟩

/-- what Bytes tells -/
def bytesB (s : Sp.Su) : List UInt8 := if Sp.right s then Sp.block s else []
def bytesE (s : Sp.Su) : Int := if Sp.right s then 0 else 1

theorem bytesV_any (s : Sp.Su) (v : Value) (w : World) (h : SuV w v s) : Calls Try.prog 53 #[v] w fun e w' => ∃ ao c, e = .returned (.tuple #[.slice ao (bytesB s).length c, .int .i64 (bytesE s)]) ∧ RdV w' (.slice ao (bytesB s).length c) (bytesB s).length 1 (bv (bytesB s)) ∧ Keep [] w w' := by
  cases hr : Sp.right s with
  | false =>
    have e1 : bytesB s = [] := by unfold bytesB; rw [hr]; rfl
    have e2 : bytesE s = 1 := by unfold bytesE; rw [hr]; rfl
    refine (bytes_no s v w h hr).mono ?_
    rintro e w' ⟨rfl, k⟩
    rw [e1, e2]
    exact ⟨none, 0, rfl, ⟨rfl, none, 0, rfl, Nat.le_refl _, fun _ => ⟨rfl, rfl⟩, fun a ha => by cases ha⟩, k⟩
  | true =>
    have e1 : bytesB s = Sp.block s := by unfold bytesB; rw [hr]; rfl
    have e2 : bytesE s = 0 := by unfold bytesE; rw [hr]; rfl
    have hl := Sp.block_length (Sp.right_bd hr)
    refine (bytes_ok s v w h hr).mono ?_
    rintro e w' ⟨ao, c, rfl, o, k, _⟩
    rw [e1, e2, hl]
    exact ⟨ao, c, rfl, RdV.ofOwn o, k⟩

theorem kbytesV_any (s : Sp.Su) (v : Value) (w : World) (h : SuV w v s) : Calls Try.prog 54 #[v] w fun e w' => e = .returned (.tuple #[.string (txt (bytesB s)), .int .i64 (bytesE s)]) ∧ Keep [] w w' := by
  cases hr : Sp.right s with
  | false =>
    have e1 : bytesB s = [] := by unfold bytesB; rw [hr]; rfl
    have e2 : bytesE s = 1 := by unfold bytesE; rw [hr]; rfl
    refine (kbytes_no s v w h hr).mono ?_
    rintro e w' ⟨rfl, k⟩
    rw [e1, e2]
    exact ⟨rfl, k⟩
  | true =>
    have e1 : bytesB s = Sp.block s := by unfold bytesB; rw [hr]; rfl
    have e2 : bytesE s = 0 := by unfold bytesE; rw [hr]; rfl
    refine (kbytes_ok s v w h hr).mono ?_
    rintro e w' ⟨rfl, k⟩
    rw [e1, e2]
    exact ⟨rfl, k⟩

set_option maxRecDepth 100000 in
set_option maxHeartbeats 40000000 in
theorem superTells_walk (s0 : Sp.Su) (v vb : Value) (l0 : List UInt8) (w : World) (h : SuV w v s0) (hb : RdV w vb l0.length 1 (bv l0)) (hll : l0.length ≤ 9223372036854775807) :
    Calls Try.prog 10 #[v, vb] w fun e w' => e = .returned (.bool true) ∧ Keep [] w w' := by
  obtain ⟨s, hs⟩ : ∃ s, s = Sp.cutS s0 := ⟨_, rfl⟩
  have CUT : ∀ v w, SuV w v s0 → Calls Try.prog 52 #[v] w fun e w' => ∃ v', e = .returned v' ∧ SuN w.heap.size w' v' s ∧ Keep [] w w' := fun v w h => by rw [hs]; exact cutN_any s0 v w h
  have hle : s.snaps.length ≤ 10 := by rw [hs]; exact cutS_le s0
  clear hs
  have h0 := h
  obtain ⟨ao0, c0, rfl, _, hl0⟩ := h0
  obtain ⟨hbm, aoB, cB, rfl, hcB, hnB, hxB⟩ := hb
  obtain ⟨n, hn⟩ : ∃ m, m = min l0.length 600 := ⟨_, rfl⟩
  have n1 : min (l0.length : Int) 600 = (n : Int) := by omega
  have n2 : min 600 (l0.length : Int) = (n : Int) := by omega
  have n3 : n ≤ cB := by omega
  have n4 : (n : Int) ≤ (cB : Int) := by omega
  have n5 : n ≤ l0.length := by omega
  have n6 : n ≤ 600 := by omega
  clear hn
  obtain ⟨l, hl⟩ : ∃ l, l = l0.take n := ⟨_, rfl⟩
  have el : l.length = n := by rw [hl, List.length_take]; omega
  have RB : RdV w (.slice aoB n cB) n 1 (bv l) := by rw [hl]; exact rd_take hcB n5 hnB hxB
  have RB2 : ∀ W, Keep [] w W → RdV W (.slice aoB n cB) l.length 1 (bv l) := fun W K => by rw [el]; exact RB.keep K (by simp)
  have HRB := Lib.hid RB2
  have EL := Lib.hid el
  have HCUT := Lib.hid CUT
  obtain ⟨i0, hi, hz0, hz1, hz2⟩ := info_parts Try.info5
  clear hl el RB RB2 hnB hxB hbm CUT n5
  go_enter Try.func10, Try.ntmps10
  go_wp2_with fail
  refine (shown4_any _).mono ?_
  rintro e w1 ⟨rfl, k1⟩
  obtain ⟨b2, hb2⟩ : ∃ b, b = w.heap.size := ⟨_, rfl⟩
  have B2 := (Blk.new' w [.int .i64 s0.gen, .int .i64 s0.root, .int .i64 s0.next, .int .i64 s0.commit, .slice ao0 s0.snaps.length c0] 59).keep k1 (by simp)
  have K1 : Keep [] w w1 := ((Keep.refl _ _).alloc _).trans k1 (by simp)
  rw [← hb2] at B2 ⊢
  have HB2 := Lib.hid hb2
  clear hb2 k1
  have q0 := B2.cell 0
  have q1 := B2.cell 1
  have q2 := B2.cell 2
  have q3 := B2.cell 3
  have q4 := B2.cell 4
  simp only [List.getElem?_cons_zero, List.getElem?_cons_succ] at q0 q1 q2 q3 q4
  go_wp2_with fail
  refine (HCUT.out _ w1 (h.keep K1 (by simp))).mono ?_
  rintro e w2 ⟨_, rfl, ⟨ao, c, rfl, rd2, le2, fp2⟩, k2⟩
  clear q0 q1 q2 q3 q4
  go_upto_region 4 with fail
  obtain ⟨w3, hw3⟩ : ∃ W, W = w2.alloc (.cells #[.int .i64 s.gen, .int .i64 s.root, .int .i64 s.next, .int .i64 s.commit, .slice ao s.snaps.length c] 59) := ⟨_, rfl⟩
  obtain ⟨b6, hb6⟩ : ∃ b, b = w2.heap.size := ⟨_, rfl⟩
  have k3 : Keep [] w2 w3 := by rw [hw3]; exact (Keep.refl _ _).alloc _
  have B6 : Blk w3 b6 [.int .i64 s.gen, .int .i64 s.root, .int .i64 s.next, .int .i64 s.commit, .slice ao s.snaps.length c] 59 := by rw [hw3, hb6]; exact Blk.new' w2 _ _
  have SO3 : SuV w3 (.agg #[.int .i64 s.gen, .int .i64 s.root, .int .i64 s.next, .int .i64 s.commit, .slice ao s.snaps.length c]) s := (SuN.of rd2 le2 fp2).su.keep k3 (by simp)
  have K3 : Keep [] w w3 := (K1.trans k2 (by simp)).trans k3 (by simp)
  have B23 := B2.keep (k2.trans k3 (by simp)) (by simp)
  rw [← hw3, ← hb6]
  clear hw3 hb6 k3 k2 B2 rd2 fp2
  have O3 := ownsRow_made0 w3 5 1
  have FA := Lib.hid (append_of hi hz0 hz1 hz2 O3 (HRB.out _ (K3.alloc (.cells #[] 5))) EL.out n6)
  clear O3
  go_wp2_with (at_builtin; refine wpList_app rfl (.tmp 26) (.tmp 27) 27 27 rfl _ _ rfl rfl FA.out ?_; intro v2 w4 hO; obtain ⟨ao4, cp4, rfl⟩ := hO.slice; have M1 := hO.keeps ((Keep.refl [] w3).alloc (.cells #[] 5)) (by intro x hx; simp [rowOf, Value.ownBlock] at hx; omega); have o4 := RdV.ofOwn hO.1; have k4 := M1.1; have B64 := B6.keep k4 (by simp); have q0 := B64.cell 0; have q1 := B64.cell 1; have q2 := B64.cell 2; have q3 := B64.cell 3; have q4 := B64.cell 4; simp only [List.getElem?_cons_zero, List.getElem?_cons_succ] at q0 q1 q2 q3 q4; clear hO M1)
  clear q0 q1 q2 q3 q4
  have SO4 := SO3.keep k4 (by simp)
  have K4 := K3.trans k4 (by simp)
  have B24 := B23.keep k4 (by simp)
  clear B6 B23 SO3 K3
  refine (bytesV_any s _ w4 SO4).mono ?_
  rintro e w5 ⟨ao5, c5, rfl, r5, k5⟩
  obtain ⟨X, hX⟩ : ∃ X, X = bytesB s := ⟨_, rfl⟩
  obtain ⟨E, hE⟩ : ∃ E, E = bytesE s := ⟨_, rfl⟩
  rw [← hX] at r5 ⊢
  rw [← hE]
  have HX := Lib.hid hX
  have HE := Lib.hid hE
  clear hX hE
  have o5 := o4.keep k5 (by simp)
  have SO5 := SO4.keep k5 (by simp)
  have K5 := K4.trans k5 (by simp)
  have B25 := B24.keep k5 (by simp)
  have B65 := B64.keep k5 (by simp)
  clear o4 SO4 K4 B24 B64
  have q0 := B25.cell 0
  have q1 := B25.cell 1
  have q2 := B25.cell 2
  have q3 := B25.cell 3
  have q4 := B25.cell 4
  simp only [List.getElem?_cons_zero, List.getElem?_cons_succ] at q0 q1 q2 q3 q4
  go_wp2_with fail
  refine (HCUT.out _ w5 (h.keep K5 (by simp))).mono ?_
  rintro e w6 ⟨_, rfl, ⟨ao6, c6, rfl, rd6, le6, fp6⟩, k6⟩
  clear q0 q1 q2 q3 q4
  go_wp2_with fail
  refine (kbytesV_any s _ w6 (SuN.of rd6 le6 fp6).su).mono ?_
  rintro e w7 ⟨rfl, k7⟩
  rw [← HX.out, ← HE.out]
  have k57 := k6.trans k7 (by simp)
  have o7 := o5.keep k57 (by simp)
  have r7 := r5.keep k57 (by simp)
  have SO7 := SO5.keep k57 (by simp)
  have K7 := K5.trans k57 (by simp)
  have B27 := B25.keep k57 (by simp)
  have B67 := B65.keep k57 (by simp)
  clear o5 r5 SO5 K5 B25 B65 k5 k6 k7 k57 rd6 fp6 le6
  go_wp2_with fail
  refine (of_any _ l w7 (by rw [EL.out]; exact o7)).mono ?_
  rintro e w8 ⟨_, rfl, ⟨po, pc, rfl, rd8, le8, fp8⟩, k8⟩
  obtain ⟨p, hp⟩ : ∃ p, p = ofS l := ⟨_, rfl⟩
  obtain ⟨g, hg⟩ : ∃ g, g = ofE l := ⟨_, rfl⟩
  rw [← hp] at rd8 le8 fp8 ⊢
  rw [← hg]
  have HP := Lib.hid hp
  have HG := Lib.hid hg
  clear hp hg
  have K8 := K7.trans k8 (by simp)
  have c1 := conv_str (HRB.out _ (K8.alloc (.cells #[.int .i64 p.gen, .int .i64 p.root, .int .i64 p.next, .int .i64 p.commit, .slice po p.snaps.length pc] 59)))
  go_wp2_with fail
  refine (kof_any l _ (by rw [EL.out]; omega)).mono ?_
  rintro e w9 ⟨_, rfl, ⟨qo, qc, rfl, rd9, le9, fp9⟩, k9⟩
  rw [← HP.out] at rd9 le9 fp9 ⊢
  rw [← HG.out]
  clear c1
  have BP := ((Blk.new' w8 [.int .i64 p.gen, .int .i64 p.root, .int .i64 p.next, .int .i64 p.commit, .slice po p.snaps.length pc] 59).keep k9 (by simp)).alloc (.cells #[.int .i64 p.gen, .int .i64 p.root, .int .i64 p.next, .int .i64 p.commit, .slice qo p.snaps.length qc] 59)
  have BQ := Blk.new' w9 [.int .i64 p.gen, .int .i64 p.root, .int .i64 p.next, .int .i64 p.commit, .slice qo p.snaps.length qc] 59
  have k89 : Keep [] w8 w9 := ((Keep.refl [] w8).alloc (.cells #[.int .i64 p.gen, .int .i64 p.root, .int .i64 p.next, .int .i64 p.commit, .slice po p.snaps.length pc] 59)).trans k9 (by simp)
  have k8q := k89.alloc (.cells #[.int .i64 p.gen, .int .i64 p.root, .int .i64 p.next, .int .i64 p.commit, .slice qo p.snaps.length qc] 59)
  have k9q := (Keep.refl [] w9).alloc (.cells #[.int .i64 p.gen, .int .i64 p.root, .int .i64 p.next, .int .i64 p.commit, .slice qo p.snaps.length qc] 59)
  have SP := (SuN.of rd8 le8 fp8).su.keep k8q (by simp)
  have SQ := (SuN.of rd9 le9 fp9).su.keep k9q (by simp)
  have q0 := BP.cell 0
  have q1 := BP.cell 1
  have q2 := BP.cell 2
  have q3 := BP.cell 3
  have q4 := BP.cell 4
  have z0 := BQ.cell 0
  have z1 := BQ.cell 1
  have z2 := BQ.cell 2
  have z3 := BQ.cell 3
  have z4 := BQ.cell 4
  simp only [List.getElem?_cons_zero, List.getElem?_cons_succ] at q0 q1 q2 q3 q4 z0 z1 z2 z3 z4
  go_wp2_with fail
  refine (same_any p p _ _ _ SP SQ).mono ?_
  rintro e w10 ⟨rfl, k10⟩
  rw [Sp.sameB_self]
  have k710 : Keep [] w7 w10 := (k8.trans k8q (by simp)).trans k10 (by simp)
  have o10 := o7.keep k710 (by simp)
  have r10 := r7.keep k710 (by simp)
  have S10 := SO7.keep k710 (by simp)
  have K10 := K7.trans k710 (by simp)
  have B210 := B27.keep k710 (by simp)
  have B610 := B67.keep k710 (by simp)
  clear q0 q1 q2 q3 q4 z0 z1 z2 z3 z4
  clear BP BQ SP SQ k89 k8q k9q rd8 rd9 fp8 fp9 le8 le9 o7 r7 SO7 K7 B27 B67 k710 k8 k9 k10 K8
  go_upto_region 10 with fail
  go_cut [17] (fun s17 wx => s17 = .bool true ∧ Keep [] w10 wx)
  case first =>
    have kd : Keep [] w10 w10.drew := (Keep.refl [] w10).drew
    have B2d := B210.keep kd (by simp)
    have B6d := B610.keep kd (by simp)
    have q0 := B2d.cell 0
    have q1 := B2d.cell 1
    have q2 := B2d.cell 2
    have q3 := B2d.cell 3
    have q4 := B2d.cell 4
    have z0 := B6d.cell 0
    have z1 := B6d.cell 1
    have z2 := B6d.cell 2
    have z3 := B6d.cell 3
    have z4 := B6d.cell 4
    simp only [List.getElem?_cons_zero, List.getElem?_cons_succ] at q0 q1 q2 q3 q4 z0 z1 z2 z3 z4
    have CU := Lib.hid (HCUT.out _ w10.drew (h.keep (K10.trans kd (by simp)) (by simp)))
    have HB6 := Lib.hid B6d
    have HS6 := Lib.hid (S10.keep kd (by simp))
    clear B2d B6d B210 B610 S10 o10 r10
    go_region_with (first
      | (go_at_call 52; (with_reducible refine CU.out.mono ?_); rintro e w11 ⟨_, rfl, ⟨xo, xc, rfl, rdx, lex, fpx⟩, k11⟩; have B611 := HB6.out.keep k11 (by simp); have y0 := B611.cell 0; have y1 := B611.cell 1; have y2 := B611.cell 2; have y3 := B611.cell 3; have y4 := B611.cell 4; simp only [List.getElem?_cons_zero, List.getElem?_cons_succ] at y0 y1 y2 y3 y4; have CX := (SuN.of rdx lex fpx).su; have S11 := HS6.out.keep k11 (by simp))
      | (go_at_call 57; (with_reducible refine (same_any s s _ _ w11 S11 CX).mono ?_); rintro e w12 ⟨rfl, k12⟩; rw [Sp.sameB_self]))
    all_goals
      go_simp
      go_wp2
      go_meet
      case rel => exact ⟨rfl, (kd.trans k11 (by simp)).trans k12 (by simp)⟩
  case rest =>
    obtain ⟨rfl, k12⟩ := hcut
    have o12 := o10.keep k12 (by simp)
    have r12 := r10.keep k12 (by simp)
    have S12 := S10.keep k12 (by simp)
    have K12 := K10.trans k12 (by simp)
    have B212 := B210.keep k12 (by simp)
    have B612 := B610.keep k12 (by simp)
    clear o10 r10 S10 K10 B210 B610 k12
    go_upto_region 11 with fail
    have kd : Keep [] wc wc.drew := (Keep.refl [] wc).drew
    have Kd := K12.trans kd (by simp)
    have B2d := B212.keep kd (by simp)
    have B6d := B612.keep kd (by simp)
    have q0 := B2d.cell 0
    have q1 := B2d.cell 1
    have q2 := B2d.cell 2
    have q3 := B2d.cell 3
    have q4 := B2d.cell 4
    have z0 := B6d.cell 0
    have z1 := B6d.cell 1
    have z2 := B6d.cell 2
    have z3 := B6d.cell 3
    have z4 := B6d.cell 4
    simp only [List.getElem?_cons_zero, List.getElem?_cons_succ] at q0 q1 q2 q3 q4 z0 z1 z2 z3 z4
    have c1 := conv_str (r12.keep kd (by simp))
    have c2 := conv_str (l := l) (v := .slice ao4 n cp4) (by rw [EL.out]; exact o12.keep kd (by simp))
    have c3 := conv_str (HRB.out _ Kd)
    obtain ⟨R, hR⟩ : ∃ R, R = Sp.right s := ⟨_, rfl⟩
    obtain ⟨T, hT⟩ : ∃ T, T = txt l := ⟨_, rfl⟩
    obtain ⟨Y, hY⟩ : ∃ Y, Y = txt X := ⟨_, rfl⟩
    rw [← hT] at c2 c3
    rw [← hY] at c1 ⊢
    have HR := Lib.hid hR
    have CR := Lib.hid (right_any s _ wc.drew (S12.keep kd (by simp)))
    have MK : ∀ W, Keep [] wc W → (W.cell? ⟨b2, 0, none⟩ = some (.int .i64 s0.gen) ∧ W.cell? ⟨b2, 1, none⟩ = some (.int .i64 s0.root) ∧ W.cell? ⟨b2, 2, none⟩ = some (.int .i64 s0.next) ∧ W.cell? ⟨b2, 3, none⟩ = some (.int .i64 s0.commit) ∧ W.cell? ⟨b2, 4, none⟩ = some (.slice ao0 s0.snaps.length c0) ∧ W.cell? ⟨b6, 0, none⟩ = some (.int .i64 s.gen) ∧ W.cell? ⟨b6, 1, none⟩ = some (.int .i64 s.root) ∧ W.cell? ⟨b6, 2, none⟩ = some (.int .i64 s.next) ∧ W.cell? ⟨b6, 3, none⟩ = some (.int .i64 s.commit) ∧ W.cell? ⟨b6, 4, none⟩ = some (.slice ao s.snaps.length c) ∧ (convert 27 9 (.slice ao5 X.length c5)).run Try.prog W = .ok (.string Y) W ∧ (convert 27 9 (.slice ao4 n cp4)).run Try.prog W = .ok (.string T) W ∧ (convert 27 9 (.slice aoB n cB)).run Try.prog W = .ok (.string T) W) := fun W k => ⟨(B212.keep k (by simp)).cell 0, (B212.keep k (by simp)).cell 1, (B212.keep k (by simp)).cell 2, (B212.keep k (by simp)).cell 3, (B212.keep k (by simp)).cell 4, (B612.keep k (by simp)).cell 0, (B612.keep k (by simp)).cell 1, (B612.keep k (by simp)).cell 2, (B612.keep k (by simp)).cell 3, (B612.keep k (by simp)).cell 4, by rw [hY]; exact conv_str (r12.keep k (by simp)), by rw [hT]; exact conv_str (l := l) (v := .slice ao4 n cp4) (by rw [EL.out]; exact o12.keep k (by simp)), by rw [hT]; exact conv_str (HRB.out _ (K12.trans k (by simp)))⟩
    have HMK := Lib.hid MK
    have HK := Lib.hid Kd
    have eT : (T.toList == T.toList) = true := beq_self_eq_true _
    have eY : (Y.toList == Y.toList) = true := beq_self_eq_true _
    clear B2d B6d B212 B612 S12 o12 r12 hR hT hY K12 Kd MK
    go_region_held3 (fun W => W.cell? ⟨b2, 0, none⟩ = some (.int .i64 s0.gen) ∧ W.cell? ⟨b2, 1, none⟩ = some (.int .i64 s0.root) ∧ W.cell? ⟨b2, 2, none⟩ = some (.int .i64 s0.next) ∧ W.cell? ⟨b2, 3, none⟩ = some (.int .i64 s0.commit) ∧ W.cell? ⟨b2, 4, none⟩ = some (.slice ao0 s0.snaps.length c0) ∧ W.cell? ⟨b6, 0, none⟩ = some (.int .i64 s.gen) ∧ W.cell? ⟨b6, 1, none⟩ = some (.int .i64 s.root) ∧ W.cell? ⟨b6, 2, none⟩ = some (.int .i64 s.next) ∧ W.cell? ⟨b6, 3, none⟩ = some (.int .i64 s.commit) ∧ W.cell? ⟨b6, 4, none⟩ = some (.slice ao s.snaps.length c) ∧ (convert 27 9 (.slice ao5 X.length c5)).run Try.prog W = .ok (.string Y) W ∧ (convert 27 9 (.slice ao4 n cp4)).run Try.prog W = .ok (.string T) W ∧ (convert 27 9 (.slice aoB n cB)).run Try.prog W = .ok (.string T) W) (first | exact HMK.out _ kd | exact HMK.out _ kd3 | exact HMK.out _ kd4 | exact HMK.out _ kd5)
      (first
        | (go_at_call 58; (with_reducible refine CR.out.mono ?_); rintro e w13 ⟨rfl, k13⟩; rw [← HR.out]; have K13 := HK.out.trans k13 (by simp); have kd3 := kd.trans k13 (by simp))
        | (go_at_call 52; (with_reducible refine (HCUT.out _ w13 (h.keep K13 (by simp))).mono ?_); rintro e w14 ⟨_, rfl, ⟨xo, xc, rfl, rdx, lex, fpx⟩, k14⟩; have CX := (SuN.of rdx lex fpx).su; have kd4 := kd3.trans k14 (by simp))
        | (go_at_call 59; (with_reducible refine (kright_any s _ w14 CX).mono ?_); rintro e w15 ⟨rfl, k15⟩; rw [← HR.out]; have kd5 := kd4.trans k15 (by simp)))
    all_goals
      have KF := HK.out.trans ((k13.trans k14 (by simp)).trans k15 (by simp)) (by simp)
      go_simp
      go_wp2
      go_ret
      exact ⟨rfl, KF⟩


theorem superTells_readable : Try.f10.params.toList.all (fun t => Try.prog.readableRec t && decide (t < Try.prog.types.size)) = true := by kernel_rfl

open Go.ChangeShapes Go.WideShapes Go.ChangeAt in
set_option maxRecDepth 100000 in
theorem superTells_contract (H : Type) (enc : TypeId × Value → H) (W : World) (base : Nat) (args : Array Value) (ds gs : List (DataW H)) (before : List MemPlace)
    (hval : ∀ (j : Nat) t v, Try.f10.params[j]? = some t → args[j]? = some v → Value.okWide Try.prog W .any base t v)
    (hW : DataW.Whole enc Try.prog Try.f10.params.toList Rows.superTellsSpec.vars false W args.toList ds gs before) :
    Calls Try.prog 10 args W fun e W' => ∃ v, e = .returned v ∧ Rows.superTellsSpec.post enc Try.prog Try.f10 false true false false W args v W' := by
  have hW' := hW
  obtain ⟨p, q, hA0, hV, rfl, _, _⟩ := hW
  have hA : DataW.TrodAll enc Try.prog W 0 (fun _ => true) true Try.f10.params.toList args.toList ds p := hA0
  rw [Try.params10] at hA hval
  obtain ⟨v0, v1, d0, d1, p0, p1, rfl, rfl, rfl, h0, h1⟩ := trodAll_two hA
  obtain ⟨rfl, rfl⟩ := trodVars_none hV
  obtain ⟨s, hs, _⟩ := open_super Try.underlying59 (by kernel_rfl) rfl rfl rfl rfl rfl (by kernel_rfl) (by kernel_rfl) (by kernel_rfl) (by kernel_rfl) (by kernel_rfl) Try.underlying3 Try.underlying3 Try.underlying3 Try.underlying3 Try.underlying57 Try.underlying81 (by kernel_rfl) rfl rfl rfl (by kernel_rfl) (by kernel_rfl) (by kernel_rfl) Try.underlying9 Try.underlying3 Try.underlying3 (hval 0 59 v0 rfl rfl) h0
  obtain ⟨l, hl, hll⟩ := open_bytes Try.underlying27 Try.underlying5 (by kernel_rfl) (hval 1 27 v1 rfl rfl) h1
  refine (superTells_walk s v0 v1 l W hs hl hll).mono fun e W' ⟨he, hk⟩ => ?_
  subst he
  exact ⟨_, rfl, law_post Try.laidOut superTells_readable rfl Try.underlying4 rfl hW' rfl hk.below0⟩

set_option maxRecDepth 100000 in
theorem superTells_lifted (os : Os) (started : os.Started) (H : Type) (enc : TypeId × Value → H) :
    ReturnsInHanded {} Try.checked os 10 .any (Rows.superTellsSpec.pre6 enc Try.prog Try.f10 Rows.superTellsRow.domain false) (Rows.superTellsSpec.post enc Try.prog Try.f10 false true false false) := by
  refine returnsInHanded_of_change_sized (C := Try.checked) Try.own started (by kernel_rfl) Try.func10
    (ChangeSpec.witness6 (enc := enc) (C := Try.checked) false ⟨#[], #[.agg #[.int .i64 0, .int .i64 0, .int .i64 0, .int .i64 0, .slice none 0 0], .slice none 0 0], []⟩ 8 (by kernel_rfl) (by kernel_rfl) (by kernel_rfl) (by kernel_rfl)) ?_
  intro W base args ds gs before hval hW _ _ _
  exact superTells_contract H enc W base args ds gs before hval hW

theorem superTells_holds : Rows.SuperTellsSaid :=
  OpenClaim.holds_of_wide 10 Try.f10 rfl rfl rfl rfl rfl rfl rfl ⟨rfl, rfl, rfl, rfl, rfl⟩ rfl rfl rfl rfl rfl (by kernel_rfl) Try.func10 (by kernel_rfl)
    (of_decide_eq_true (by kernel_rfl)) (by unfold Func.isWrapper; first | (rw [if_pos (by decide +kernel)]; kernel_rfl) | (rw [if_neg (by decide +kernel)]; exact ⟨rfl, rfl⟩))
    (fun os started H enc _ => superTells_lifted os started H enc)

#print axioms superTells_holds
end Go.Proofs.Yteogkgjajhdhjaa
