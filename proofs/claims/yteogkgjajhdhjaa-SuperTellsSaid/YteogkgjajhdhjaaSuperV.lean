/-
  Layer 4's document: Bytes: the block of a superblock that is right, an error else. No condition but that the snapshots can be read.
-/
import Derived.Test.YteogkgjajhdhjaaSuperU
import Derived.Test.YteogkgjajhdhjaaSuperS
namespace Go.Proofs.Yteogkgjajhdhjaa
open Go.RowKit

set_option maxRecDepth 100000 in
set_option maxHeartbeats 1600000 in
theorem kbytes_no (s : Sp.Su) (v : Value) (w : World) (h : SuV w v s) (hr : Sp.right s = false) : Calls Try.prog 54 #[v] w fun e w' => e = .returned (.tuple #[.string ⟨#[]⟩, .int .i64 1]) ∧ Keep [] w w' := by
  have h0 := h
  obtain ⟨ao, c, rfl, _, _⟩ := h0
  go_enter Try.func54, Try.ntmps54
  go_wp2_with fail
  refine (kright_any s _ _ (h.keep ((Keep.refl [] _).alloc _) (by simp))).mono ?_
  rintro e w2 ⟨rfl, k2⟩
  rw [hr]
  go_wp2
  go_ret2
  exact ⟨rfl, ((Keep.refl _ _).alloc _).trans k2 (by simp)⟩

set_option maxRecDepth 100000 in
set_option maxHeartbeats 1600000 in
theorem kbytes_ok (s : Sp.Su) (v : Value) (w : World) (h : SuV w v s) (hr : Sp.right s = true) : Calls Try.prog 54 #[v] w fun e w' => e = .returned (.tuple #[.string (txt (Sp.block s)), .int .i64 0]) ∧ Keep [] w w' := by
  have h0 := h
  obtain ⟨ao, c, rfl, _, hl⟩ := h0
  obtain ⟨i0, hi, hz0, hz1, hz2⟩ := info_parts Try.info5
  have BD := Lib.hid (Sp.right_bd hr)
  have g0 := BD.out.g0
  have g1 := BD.out.g1
  have hfl := Sp.fields_length BD.out
  go_enter Try.func54, Try.ntmps54
  go_wp2_with fail
  refine (kright_any s _ _ (h.keep ((Keep.refl [] _).alloc _) (by simp))).mono ?_
  rintro e w2 ⟨rfl, k2⟩
  rw [hr]
  have B2 := (Blk.new' w [.int .i64 s.gen, .int .i64 s.root, .int .i64 s.next, .int .i64 s.commit, .slice ao s.snaps.length c] 59).keep k2 (by simp)
  have K2 : Keep [] w w2 := ((Keep.refl _ _).alloc _).trans k2 (by simp)
  obtain ⟨b1, hb1⟩ : ∃ b, b = w.heap.size := ⟨_, rfl⟩
  rw [← hb1] at B2 ⊢
  have q0 := B2.cell 0
  have q1 := B2.cell 1
  have q2 := B2.cell 2
  have q3 := B2.cell 3
  have q4 := B2.cell 4
  simp only [List.getElem?_cons_zero, List.getElem?_cons_succ] at q0 q1 q2 q3 q4
  clear hb1
  go_wp2_with fail
  refine (kfields_any s _ w2 (h.keep K2 (by simp)) hr).mono ?_
  rintro e w3 ⟨rfl, k3⟩
  have B3 := B2.keep k3 (by simp)
  have K3 := K2.trans k3 (by simp)
  clear q0 q1 q2 q3 q4 B2 K2 k2
  obtain ⟨F, hF⟩ : ∃ F, F = Sp.fields s := ⟨_, rfl⟩
  have HF := Lib.hid hF
  rw [← hF] at hfl ⊢
  have hfs : (txt F).size = F.length := txt_len F
  obtain ⟨q, hq⟩ : ∃ q : Nat, q = 504 - F.length := ⟨_, rfl⟩
  have hsub : (504 : Int) - (F.length : Int) = (q : Int) := by omega
  have HQ := Lib.hid hq
  have q0 := B3.cell 0
  simp only [List.getElem?_cons_zero] at q0
  clear hF hq
  have MK := fun (W : World) => run_makeSlice_full (P := Try.prog) W 0 27 5 i0 _ 1 Try.underlying27 hi hz0 hz1 .i64 .i64 q (by omega) (by rw [hz2]; omega) (by unfold maxLen; omega) (Nat.zero_le _)
  have HMK := Lib.hid MK
  clear MK
  obtain ⟨w1, hmk, o1, g1'⟩ := HMK.out w3.drew
  rw [show (Value.int .u8 0).cells = #[Value.int .u8 0] from rfl, toList_madeCells_one, show List.replicate (q * 1) (Value.int .u8 0) = bv (List.replicate q 0) by simp [bv]] at o1
  have rd1 : RdV w1 (.slice (some ⟨w3.heap.size, 0, none⟩) q q) (List.replicate q (0 : UInt8)).length 1 (bv (List.replicate q 0)) := by rw [List.length_replicate]; exact RdV.ofOwn o1
  have hcv := conv_str rd1
  have k1 : Keep [] w3 w1 := (Keep.refl _ _).drew.grown g1' (fun k h => by cases h)
  have q01 := (B3.keep k1 (by simp)).cell 0
  simp only [List.getElem?_cons_zero] at q01
  have hlr : (txt (List.replicate q (0 : UInt8))).size = q := by rw [txt_len, List.length_replicate]
  have z1 : (txt (Pk.be s.gen.toNat 8)).size = 8 := by rw [txt_len, Pk.be_length]
  have e1 : ¬ (9223372036854775807 < F.length + q) := by omega
  have e2 : ¬ (9223372036854775807 < F.length + q + 8) := by omega
  have heq : txt F ++ txt (List.replicate q 0) ++ txt (Pk.be s.gen.toNat 8) = txt (Sp.block s) := by
    rw [txt_app, txt_app, HQ.out, HF.out]
    rfl
  have HEQ := Lib.hid heq
  have hq504 : q ≤ 504 := by have := HQ.out; omega
  have hqw : IntKind.i64.wrap (q : Int) = (q : Int) := IntWalk.i64_in _ (by omega)
  clear heq o1 g1'
  go_wp2_with fail
  go_region_with (first
    | (go_at_call 62; (with_reducible refine (knum8_any s.gen w1 (by omega) (by omega)).mono ?_); rintro e wn ⟨rfl, kn⟩; have hcvn := conv_str (rd1.keep kn (by simp)); have KF := (K3.trans k1 (by simp)).trans kn (by simp))
    | (go_at_call 62; (with_reducible refine (knum8_any s.gen w3.drew (by omega) (by omega)).mono ?_); rintro e wn ⟨rfl, kn⟩; obtain ⟨w1n, hmkn, o1n, g1n⟩ := HMK.out wn; rw [show (Value.int .u8 0).cells = #[Value.int .u8 0] from rfl, toList_madeCells_one, show List.replicate (q * 1) (Value.int .u8 0) = bv (List.replicate q 0) by simp [bv]] at o1n; have rdn : RdV w1n (.slice (some ⟨wn.heap.size, 0, none⟩) q q) (List.replicate q (0 : UInt8)).length 1 (bv (List.replicate q 0)) := (by rw [List.length_replicate]; exact RdV.ofOwn o1n); have hcvn := conv_str rdn; have KF := (K3.drew.trans kn (by simp)).grown g1n (fun k h => by cases h)))
  all_goals
    go_simp
    go_wp2
    go_ret2
    exact ⟨by rw [← HEQ.out]; rfl, KF⟩
end Go.Proofs.Yteogkgjajhdhjaa
