/-
  Layer 4's document: Fields: all but the generation at the end. No condition but that the superblock is right.
-/
import Derived.Test.YteogkgjajhdhjaaSuperN
import Derived.Deep.RegionHeld3
namespace Go.Proofs.Yteogkgjajhdhjaa
open Go.RowKit

theorem txtName (s : ByteArray) : s = txt s.data.toList := by
  cases s
  simp [txt]

set_option maxRecDepth 100000 in
set_option maxHeartbeats 1600000 in
theorem kfields_any (s : Sp.Su) (v : Value) (w : World) (h : SuV w v s) (hr : Sp.right s = true) : Calls Try.prog 74 #[v] w fun e w' => e = .returned (.string (txt (Sp.fields s))) ∧ Keep [] w w' := by
  obtain ⟨ao, c, rfl, hrd, hl⟩ := h
  have HR := Lib.hid hrd
  clear hrd
  have BD := Lib.hid (Sp.right_bd hr)
  have g0 := BD.out.g0
  have g1 := BD.out.g1
  have r0 := BD.out.r0
  have r1 := BD.out.r1
  have n0 := BD.out.n0
  have n1 := BD.out.n1
  have m0 := BD.out.c0
  have m1 := BD.out.c1
  have l8 := BD.out.l
  have z1 : (txt (Pk.be s.gen.toNat 8)).size = 8 := by rw [txt_len, Pk.be_length]
  have z2 : (txt (Pk.be s.root.toNat 4)).size = 4 := by rw [txt_len, Pk.be_length]
  have z3 : (txt (Pk.be s.next.toNat 4)).size = 4 := by rw [txt_len, Pk.be_length]
  have z4 : (txt (Pk.be s.commit.toNat 8)).size = 8 := by rw [txt_len, Pk.be_length]
  have z6 : (txt (Pk.be s.snaps.length 1)).size = 1 := by rw [txt_len, Pk.be_length]
  have z5 : (txt (Pk.be ((s.snaps.length : Int)).toNat 1)).size = 1 := by rw [txt_len, Pk.be_length]
  obtain ⟨b1, hb1⟩ : ∃ b, b = w.heap.size := ⟨_, rfl⟩
  have B0 := (Blk.new' w [.int .i64 s.gen, .int .i64 s.root, .int .i64 s.next, .int .i64 s.commit, .slice ao s.snaps.length c] 59).drew
  have K0 : Keep [] w (w.alloc (.cells [.int .i64 s.gen, .int .i64 s.root, .int .i64 s.next, .int .i64 s.commit, .slice ao s.snaps.length c].toArray 59)).drew := ((Keep.refl _ _).alloc _).drew
  rw [← hb1] at B0
  have HB := Lib.hid hb1
  have q0 := B0.cell 0
  have q1 := B0.cell 1
  have q2 := B0.cell 2
  have q3 := B0.cell 3
  have q4 := B0.cell 4
  simp only [List.getElem?_cons_zero, List.getElem?_cons_succ] at q0 q1 q2 q3 q4
  go_enter Try.func74, Try.ntmps74
  go_wp2_with fail
  rw [← hb1]
  clear hb1
  go_upto_region 1 with fail
  go_cut [3] (fun s3 wx => s3 = .string (txt (Sp.head s)) ∧ Blk wx b1 [.int .i64 s.gen, .int .i64 s.root, .int .i64 s.next, .int .i64 s.commit, .slice ao s.snaps.length c] 59 ∧ Keep [] w wx)
  case first =>
    go_region_held3 (fun w' => w'.cell? ⟨b1, 0, none⟩ = some (.int .i64 s.gen) ∧ w'.cell? ⟨b1, 1, none⟩ = some (.int .i64 s.root) ∧ w'.cell? ⟨b1, 2, none⟩ = some (.int .i64 s.next) ∧ w'.cell? ⟨b1, 3, none⟩ = some (.int .i64 s.commit) ∧ w'.cell? ⟨b1, 4, none⟩ = some (.slice ao s.snaps.length c)) (first | (refine ⟨?_, ?_, ?_, ?_, ?_⟩ <;> with_reducible assumption) | go_keep)
      (first
        | (go_at_call 62; have tk := B0; (with_reducible refine (knum8_any s.gen _ (by omega) (by omega)).mono ?_); rintro e wa ⟨rfl, ka⟩; have Ka := K0.trans ka (by simp); have Ba := B0.keep ka (by simp); have a0 := Ba.cell 0; have a1 := Ba.cell 1; have a2 := Ba.cell 2; have a3 := Ba.cell 3; have a4 := Ba.cell 4; simp only [List.getElem?_cons_zero, List.getElem?_cons_succ] at a0 a1 a2 a3 a4; clear tk B0)
        | (go_at_call 62; have tk := Ba; (with_reducible refine (knum4_any s.root _ (by omega) (by omega)).mono ?_); rintro e wb ⟨rfl, kb⟩; have Kb := Ka.trans kb (by simp); have Bb := Ba.keep kb (by simp); have b0 := Bb.cell 0; have b1 := Bb.cell 1; have b2 := Bb.cell 2; have b3 := Bb.cell 3; have b4 := Bb.cell 4; simp only [List.getElem?_cons_zero, List.getElem?_cons_succ] at b0 b1 b2 b3 b4; clear tk Ba)
        | (go_at_call 62; have tk := Bb; (with_reducible refine (knum4_any s.next _ (by omega) (by omega)).mono ?_); rintro e wc' ⟨rfl, kc'⟩; have Kc' := Kb.trans kc' (by simp); have Bc' := Bb.keep kc' (by simp); have c'0 := Bc'.cell 0; have c'1 := Bc'.cell 1; have c'2 := Bc'.cell 2; have c'3 := Bc'.cell 3; have c'4 := Bc'.cell 4; simp only [List.getElem?_cons_zero, List.getElem?_cons_succ] at c'0 c'1 c'2 c'3 c'4; clear tk Bb)
        | (go_at_call 62; have tk := Bc'; (with_reducible refine (knum8_any s.commit _ (by omega) (by omega)).mono ?_); rintro e wd ⟨rfl, kd⟩; have Kd := Kc'.trans kd (by simp); have Bd := Bc'.keep kd (by simp); have d0 := Bd.cell 0; have d1 := Bd.cell 1; have d2 := Bd.cell 2; have d3 := Bd.cell 3; have d4 := Bd.cell 4; simp only [List.getElem?_cons_zero, List.getElem?_cons_succ] at d0 d1 d2 d3 d4; clear tk Bc')
        | (go_at_call 62; have tk := Bd; (with_reducible refine (knum1_any (s.snaps.length : Int) _ (by omega) (by omega)).mono ?_); rintro e we' ⟨rfl, ke'⟩; have Ke' := Kd.trans ke' (by simp); have Be' := Bd.keep ke' (by simp); have e'0 := Be'.cell 0; have e'1 := Be'.cell 1; have e'2 := Be'.cell 2; have e'3 := Be'.cell 3; have e'4 := Be'.cell 4; simp only [List.getElem?_cons_zero, List.getElem?_cons_succ] at e'0 e'1 e'2 e'3 e'4; clear tk Bd))
    go_wp2
    go_meet
    case rel =>
      refine ⟨?_, Be', Ke'⟩
      rw [show (⟨#[87, 65, 73, 78]⟩ : ByteArray) = txt Sp.sign from rfl, txt_app, txt_app, txt_app, txt_app, txt_app]
      simp only [Sp.head, List.append_assoc]
  case rest =>
    obtain ⟨rfl, B1, K1⟩ := hcut
    rw [← Sp.upTo_zero]
    go_wp2_with fail
    go_loopw [3, 4] (fun s3 i wr => ∃ k : Nat, k ≤ s.snaps.length ∧ i = .int .i64 k ∧ s3 = .string (txt (Sp.upTo s k)) ∧ Blk wr b1 [.int .i64 s.gen, .int .i64 s.root, .int .i64 s.next, .int .i64 s.commit, .slice ao s.snaps.length c] 59 ∧ Keep [] w wr) (fun _ i _ => s.snaps.length - (intOf i).toNat)
    case atStart => exact ⟨0, Nat.zero_le _, rfl, rfl, B1, K1⟩
    case round =>
      clear B1 K1
      obtain ⟨k, hk, rfl, rfl, B, K⟩ := hrel
      have c4 := B.cell 4
      simp only [List.getElem?_cons_zero, List.getElem?_cons_succ] at c4
      by_cases hlt : k < s.snaps.length
      · obtain ⟨x, hx⟩ : ∃ x, s.snaps[k]? = some x := ⟨_, List.getElem?_eq_getElem hlt⟩
        obtain ⟨p, rfl, hab, d0, d1, d2⟩ := snap_cells HR.out K (by simp) hx
        obtain ⟨x0, x1, x2, x3, x4⟩ := BD.out.x x (List.mem_of_getElem? hx)
        have HS := Lib.hid (Sp.upTo_succ s k x hx)
        have hbl := Sp.upTo_length BD.out k
        have hts : (txt (Sp.upTo s k)).size ≤ 277 := by rw [txt_len]; exact hbl
        obtain ⟨T, hT⟩ : ∃ T, T = txt (Sp.upTo s k) := ⟨_, rfl⟩
        have HT := Lib.hid hT
        rw [← hT] at hts ⊢
        have y1 : (txt (Pk.be x.name.size 1)).size = 1 := by rw [txt_len, Pk.be_length]
        have y2 : (txt (Pk.be x.root.toNat 4)).size = 4 := by rw [txt_len, Pk.be_length]
        have y3 : (txt (Pk.be x.commit.toNat 8)).size = 8 := by rw [txt_len, Pk.be_length]
        have BX := (Blk.new' wr [.string x.name, .int .i64 x.root, .int .i64 x.commit] 81).drew
        have B1X := (B.alloc (.cells [.string x.name, .int .i64 x.root, .int .i64 x.commit].toArray 81)).drew
        have KX := (K.alloc (.cells [.string x.name, .int .i64 x.root, .int .i64 x.commit].toArray 81)).drew
        have hbw := B.lt
        have q0 := BX.cell 0
        have q1 := BX.cell 1
        have q2 := BX.cell 2
        simp only [List.getElem?_cons_zero, List.getElem?_cons_succ] at q0 q1 q2
        have e1 : ¬ (9223372036854775807 < T.size + 1) := by omega
        have e2 : ¬ (9223372036854775807 < T.size + 1 + x.name.size) := by omega
        have e3 : ¬ (9223372036854775807 < T.size + 1 + x.name.size + 4) := by omega
        have e4 : ¬ (9223372036854775807 < T.size + 1 + x.name.size + 4 + 8) := by omega
        clear hx hT
        go_wp2_with fail
        go_region_held3 (fun w' => w'.cell? ⟨wr.heap.size, 0, none⟩ = some (.string x.name) ∧ w'.cell? ⟨wr.heap.size, 1, none⟩ = some (.int .i64 x.root) ∧ w'.cell? ⟨wr.heap.size, 2, none⟩ = some (.int .i64 x.commit)) (first | (refine ⟨?_, ?_, ?_⟩ <;> with_reducible assumption) | go_keep)
          (first
            | (go_at_call 62; have tk := BX; (with_reducible refine (knum1_any (x.name.size : Int) _ (by omega) (by omega)).mono ?_); rintro e wa ⟨rfl, ka⟩; have Ka := KX.trans ka (by simp); have B1a := B1X.keep ka (by simp); have Ba := BX.keep ka (by simp); have a0 := Ba.cell 0; have a1 := Ba.cell 1; have a2 := Ba.cell 2; simp only [List.getElem?_cons_zero, List.getElem?_cons_succ] at a0 a1 a2; clear tk BX)
            | (go_at_call 62; have tk := Ba; (with_reducible refine (knum4_any x.root _ (by omega) (by omega)).mono ?_); rintro e wb ⟨rfl, kb⟩; have Kb := Ka.trans kb (by simp); have B1b := B1a.keep kb (by simp); have Bb := Ba.keep kb (by simp); have b0 := Bb.cell 0; have b1 := Bb.cell 1; have b2 := Bb.cell 2; simp only [List.getElem?_cons_zero, List.getElem?_cons_succ] at b0 b1 b2; clear tk Ba)
            | (go_at_call 62; have tk := Bb; (with_reducible refine (knum8_any x.commit _ (by omega) (by omega)).mono ?_); rintro e wd ⟨rfl, kd⟩; have Kd := Kb.trans kd (by simp); have B1d := B1b.keep kd (by simp); have Bd := Bb.keep kd (by simp); have d0 := Bd.cell 0; have d1 := Bd.cell 1; have d2 := Bd.cell 2; simp only [List.getElem?_cons_zero, List.getElem?_cons_succ] at d0 d1 d2; clear tk Bb))
        go_wp2
        go_roundw
        case rel =>
          refine ⟨k + 1, by omega, by go_num, ?_, B1d, Kd⟩
          have en : x.name = txt (Sp.nm x) := by unfold Sp.nm; exact (txtName x.name)
          have e0 : Pk.be x.name.size 1 = [UInt8.ofNat (Sp.nm x).length] := by rw [nm_len]; rfl
          rw [HS.out, HT.out, e0]
          conv => lhs; rw [en]
          rw [txt_app, txt_app, txt_app, txt_app]
          simp only [List.append_assoc, List.cons_append, List.nil_append]
        case measure => simp [intOf]; omega
      · obtain rfl : k = s.snaps.length := by omega
        go_wp2
        go_ret
        exact ⟨by rw [← Sp.upTo_all]; rfl, K⟩
end Go.Proofs.Yteogkgjajhdhjaa
