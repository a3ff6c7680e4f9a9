/-
  The document's answer for inodes: Numbered, Of. No condition but that a text is not too long.
-/
import Derived.Test.YteogkgjajhdhjaaDoorInRef
namespace Go.Proofs.YteogkgjajhdhjaaDoor
open Go.RowKit

theorem toList_no {s t : ByteArray} (h : s ≠ t) : (s.toList == t.toList) = false := by
  rw [beq_eq_false_iff_ne]
  intro e
  apply h
  rw [ByteArray.toList_eq, ByteArray.toList_eq] at e
  apply ByteArray.ext
  exact Array.toList_inj.1 e

theorem numref_yes {v : List UInt8} {k : Int} (h1 : In.numbered k = true) (h2 : In.number k = v) : In.numOf v = some k := by
  rw [← h2]; exact numOf_number h1

theorem numref_no {v : List UInt8} {k : Int} (hk : k = (Pk.rd ((⟨v, false⟩ : Pk.Rd).take 4) : Nat)) (h : ¬ (In.numbered k = true ∧ In.number k = v)) : In.numOf v = none := by
  cases ho : In.numOf v with
  | none => rfl
  | some n =>
    obtain ⟨h3, h4⟩ := number_numOf ho
    exfalso; apply h
    have hl : v.length = 4 := by rw [← h4]; exact Pk.be_length _ _
    have ht : (⟨v, false⟩ : Pk.Rd).take 4 = v := by
      have := In.take_len (b := v) (n := 4) (by omega)
      rw [show ((4 : Nat) : Int) = 4 from rfl] at this
      rw [this, List.take_of_length_le (by omega)]
    have hn : k = n := by
      rw [hk, ht, ← h4]
      have h5 := Pk.rd_be n.toNat 4
      unfold In.number
      rw [h5]
      simp [In.numbered] at h3
      omega
    rw [hn]
    exact ⟨h3, h4⟩

set_option maxRecDepth 100000 in
set_option maxHeartbeats 1600000 in
theorem rnumbered_var (s : ByteArray) (w : World) (hs : s.size ≤ 1000000000) : Calls Tryd.prog 18 #[.string s] w fun e w' => ∃ n b, e = .returned (.tuple #[.int .i64 n, .bool b]) ∧ NumIf s n b ∧ Keep [] w w' := by
  have hl : s.data.toList.length = s.size := by rw [Array.length_toList]; rfl
  obtain ⟨w1, hw1⟩ : ∃ w1, w1 = w.alloc (.cells #[.string s, .bool false] 54) := ⟨_, rfl⟩
  have k1 : Keep [] w w1 := by rw [hw1]; exact (Keep.refl _ _).alloc _
  have I1 : IsK w1 w.heap.size ⟨s.data.toList, false⟩ := by
    refine ⟨?_, by show s.data.toList.length ≤ _; omega⟩
    rw [hw1]
    show Blk _ _ [.string (txt s.data.toList), .bool false] _
    rw [← ptxt_of]
    exact Blk.new' w _ _
  go_enter Tryd.func18, Tryd.ntmps18
  go_wp2_with fail
  rw [← hw1]
  clear hw1
  have hge : w.heap.size ≤ w.heap.size := Nat.le_refl _
  refine (kword_any w.heap.size _ w1 I1).mono ?_
  rintro e w2 ⟨rfl, I2, k2⟩
  have K2 : Keep [] w w2 := k1.trans k2 (fun x hx => by simp at hx; omega)
  obtain ⟨k, hk⟩ : ∃ k : Int, k = (Pk.rd ((⟨s.data.toList, false⟩ : Pk.Rd).take 4) : Nat) := ⟨_, rfl⟩
  rw [← hk]
  have HK := Lib.hid hk
  clear hk I1 k1 k2 I2
  go_wp2_with fail
  refine (rnumber_var k w2).mono ?_
  rintro e w3 ⟨t, b, rfl, hb, ht, k3⟩
  have K3 := K2.trans k3 (by simp)
  clear k3 K2
  by_cases hc : b = true ∧ t = s
  · obtain ⟨rfl, rfl⟩ := hc
    have hy := numref_yes hb.symm (by have h1 := congrArg (fun x => x.data.toList) (ht.1 rfl); simp only [txt_list] at h1; exact h1.symm)
    have HY := Lib.hid hy
    clear hy ht hb
    go_wp2
    go_ret2
    exact ⟨_, _, rfl, Or.inl ⟨rfl, HY.out⟩, K3⟩
  · have hn : In.numOf s.data.toList = none := numref_no HK.out (fun ⟨h1, h2⟩ => hc ⟨by rw [hb]; exact h1, by rw [ht.1 (by rw [hb]; exact h1), h2]; exact (ptxt_of s).symm⟩)
    have HN := Lib.hid hn
    clear hn hb ht
    cases b with
    | false =>
      clear hc
      go_wp2
      go_ret2
      exact ⟨_, _, rfl, Or.inr ⟨rfl, HN.out, rfl⟩, K3⟩
    | true =>
      have hts := toList_no (fun h : t = s => hc ⟨rfl, h⟩)
      clear hc
      go_wp2
      go_ret2
      exact ⟨_, _, rfl, Or.inr ⟨rfl, HN.out, rfl⟩, K3⟩

/-- the inode that the document's reader reads -/
def refNd (v : List UInt8) : In.Nd :=
  if Pk.rd ((⟨v, false⟩ : Pk.Rd).take 1) = 1 then ⟨true, 0, 0⟩
  else ⟨false, Pk.rd (((⟨v, false⟩ : Pk.Rd).skip 1).take 4), Pk.rd ((((⟨v, false⟩ : Pk.Rd).skip 1).skip 4).take 4)⟩

theorem refNd_yes {v : List UInt8} {x : In.Nd} (h1 : In.right x.dir x.links x.size = true) (h2 : In.value x.dir x.links x.size = v) : In.of v = some x := by
  rw [← h2]; exact In.of_value h1

theorem refNd_no {v : List UInt8} {x : In.Nd} (hx : x = refNd v) (h : ¬ (In.right x.dir x.links x.size = true ∧ In.value x.dir x.links x.size = v)) : In.of v = none := by
  cases ho : In.of v with
  | none => rfl
  | some y =>
    obtain ⟨h3, h4⟩ := In.of_some ho
    exfalso; apply h
    have hxy : x = y := by
      rw [hx]
      have hy : y = (In.rd3 v).1 := by
        unfold In.of at ho
        split at ho
        · exact (Option.some.inj ho).symm
        · cases ho
      unfold refNd
      by_cases k1 : Pk.rd ((⟨v, false⟩ : Pk.Rd).take 1) = 1
      · rw [if_pos k1, hy, rd3_one k1]
      · rw [if_neg k1]
        by_cases k2 : Pk.rd ((⟨v, false⟩ : Pk.Rd).take 1) = 2
        · rw [hy, rd3_two k2]
        · rw [hy, rd3_else k1 k2] at h3
          simp [In.right] at h3
    rw [hxy]
    exact ⟨h3, h4.symm⟩

theorem refNd_one {v : List UInt8} (h : Pk.rd ((⟨v, false⟩ : Pk.Rd).take 1) = 1) : refNd v = ⟨true, 0, 0⟩ := by unfold refNd; rw [if_pos h]
theorem refNd_two {v : List UInt8} (h : ¬ Pk.rd ((⟨v, false⟩ : Pk.Rd).take 1) = 1) : refNd v = ⟨false, Pk.rd (((⟨v, false⟩ : Pk.Rd).skip 1).take 4), Pk.rd ((((⟨v, false⟩ : Pk.Rd).skip 1).skip 4).take 4)⟩ := by unfold refNd; rw [if_neg h]

set_option maxRecDepth 100000 in
set_option maxHeartbeats 3200000 in
theorem rof_var (s : ByteArray) (w : World) (hs : s.size ≤ 1000000000) : Calls Tryd.prog 14 #[.string s] w fun e w' => ∃ d l z b, e = .returned (.tuple #[.agg #[.bool d, .int .i64 l, .int .i64 z], .bool b]) ∧ OfIf s d l z b ∧ Keep [] w w' := by
  have hl : s.data.toList.length = s.size := by rw [Array.length_toList]; rfl
  obtain ⟨w0, hw0⟩ : ∃ w0, w0 = w.alloc (.cells #[.bool false, .int .i64 0, .int .i64 0] 28) := ⟨_, rfl⟩
  obtain ⟨w1, hw1⟩ : ∃ w1, w1 = w0.alloc (.cells #[.string s, .bool false] 54) := ⟨_, rfl⟩
  have k0 : Keep [] w w0 := by rw [hw0]; exact (Keep.refl _ _).alloc _
  have k1 : Keep [] w0 w1 := by rw [hw1]; exact (Keep.refl _ _).alloc _
  have B0 : Blk w0 w.heap.size [.bool false, .int .i64 0, .int .i64 0] 28 := by rw [hw0]; exact Blk.new' w _ _
  have I1 : IsK w1 w0.heap.size ⟨s.data.toList, false⟩ := by
    refine ⟨?_, by show s.data.toList.length ≤ _; omega⟩
    rw [hw1]
    show Blk _ _ [.string (txt s.data.toList), .bool false] _
    rw [← ptxt_of]
    exact Blk.new' w0 _ _
  have B1 := B0.keep k1 (by simp)
  have hsz : w0.heap.size = w.heap.size + 1 := by rw [hw0, World.size_alloc]
  rw [hsz] at I1
  have K1 := k0.trans k1 (by simp)
  have HL := Lib.hid hl
  have HW := Lib.hid (And.intro hw0 hw1)
  clear k0 k1 B0 hw0 hw1 hsz hl
  obtain ⟨b0, hb0⟩ : ∃ b, b = w.heap.size := ⟨_, rfl⟩
  obtain ⟨br, hbr⟩ : ∃ b, b = w.heap.size + 1 := ⟨_, rfl⟩
  have hwb : w.heap.size ≤ b0 ∧ b0 < br := by omega
  obtain ⟨hw0, hw1⟩ := hwb
  rw [← hbr] at I1
  rw [← hb0] at B1
  have HB := Lib.hid (And.intro hb0 hbr)
  clear hb0 hbr
  go_enter Tryd.func14, Tryd.ntmps14
  go_wp2_with fail
  rw [← HB.out.2, ← HB.out.1, ← HW.out.1, ← HW.out.2]
  clear HW HB
  refine (kbyte_any br _ w1 I1).mono ?_
  rintro e w2 ⟨rfl, I2, k2⟩
  have K2 : Keep [] w w2 := K1.trans k2 (fun x hx => by simp at hx; omega)
  have B2 := B1.keep k2 (by simp; omega)
  obtain ⟨k, hk⟩ : ∃ k, k = Pk.rd ((⟨s.data.toList, false⟩ : Pk.Rd).take 1) := ⟨_, rfl⟩
  rw [← hk]
  have HK := Lib.hid hk
  clear hk I1 k2 B1 K1
  go_upto_if 19 with fail
  obtain ⟨b6, hb6⟩ : ∃ b, b = w2.heap.size := ⟨_, rfl⟩
  rw [← hb6]
  have HB6 := Lib.hid hb6
  clear hb6
  go_cut [] (fun wx => ∃ x : In.Nd, x = refNd s.data.toList ∧ Blk wx b6 [.bool x.dir, .int .i64 x.links, .int .i64 x.size] 28 ∧ Blk wx b0 [.bool false, .int .i64 0, .int .i64 0] 28 ∧ Keep [] w wx)
  case first =>
    by_cases hk1 : k = 1
    · have hkb : ((k : Int) == 1) = true := by rw [beq_iff_eq]; omega
      rw [hkb]
      go_wp2
      go_meet
      case rel => exact ⟨⟨true, 0, 0⟩, (refNd_one (by rw [← HK.out]; exact hk1)).symm, by rw [HB6.out]; exact Blk.new' _ _ _, B2.keep ((Keep.refl [] w2).alloc _) (by simp), K2.alloc _⟩
    · have hkb : ((k : Int) == 1) = false := by rw [beq_eq_false_iff_ne]; omega
      rw [hkb]
      have hrx := refNd_two (v := s.data.toList) (by rw [← HK.out]; exact hk1)
      have HRX := Lib.hid hrx
      obtain ⟨w3, hw3⟩ : ∃ x, x = w2.alloc (.cells #[.bool false, .int .i64 0, .int .i64 0] 28) := ⟨_, rfl⟩
      have hb6 := HB6.out
      have k3 : Keep [] w2 w3 := by rw [hw3]; exact (Keep.refl _ _).alloc _
      have B6 : Blk w3 b6 [.bool false, .int .i64 0, .int .i64 0] 28 := by rw [hw3, hb6]; exact Blk.new' w2 _ _
      have hlt := I2.blk.lt
      have hlt2 := K2.size
      have hb6g : br < b6 ∧ w.heap.size ≤ b6 := by omega
      obtain ⟨hbg, hwg⟩ := hb6g
      rw [← hw3]
      have I3 := I2.keep k3 (by simp)
      have B3 := B2.keep k3 (by simp)
      have K3 := K2.trans k3 (by simp)
      clear hrx hkb hk1 hw3 hb6 k3 I2 B2 K2 HK hlt hlt2
      go_wp2_with fail
      refine (kword_any br _ w3 I3).mono ?_
      rintro e w4 ⟨rfl, I4, k4⟩
      have K4 : Keep [] w w4 := K3.trans k4 (fun x hx => by simp at hx; omega)
      have B4 := B3.keep k4 (by simp; omega)
      have B64 := B6.keep k4 (by simp; omega)
      clear I3 B3 K3 B6 k4
      have f1 := B64.free 1
      have c1 := B64.cell 1
      simp only [List.getElem?_cons_zero, List.getElem?_cons_succ] at c1
      obtain ⟨a1, ha1⟩ : ∃ a, a = Pk.rd (((⟨s.data.toList, false⟩ : Pk.Rd).skip 1).take 4) := ⟨_, rfl⟩
      rw [← ha1]
      have S5 := B64.set 1 (.int .i64 (a1 : Int))
      have k5 : Keep [b6] w4 (w4.setCell ⟨b6, 1, none⟩ (.int .i64 (a1 : Int))) := (Keep.refl _ _).setCell (Or.inl (by simp)) _
      have I5 := I4.keep k5 (by simp; omega)
      have B5 := B4.keep k5 (by simp; omega)
      have K5 : Keep [] w (w4.setCell ⟨b6, 1, none⟩ (.int .i64 (a1 : Int))) := K4.trans k5 (fun x hx => by simp at hx; omega)
      clear I4 B4 K4 B64 k5
      have HA1 := Lib.hid ha1
      clear ha1
      go_wp2_with fail
      clear f1 c1
      refine (kword_any br _ _ I5).mono ?_
      rintro e w6 ⟨rfl, I6, k6⟩
      have K6 : Keep [] w w6 := K5.trans k6 (fun x hx => by simp at hx; omega)
      have B7 := B5.keep k6 (by simp; omega)
      have B67 := S5.keep k6 (by simp; omega)
      clear I5 B5 K5 S5 k6 I6
      have f1 := B67.free 2
      have c1 := B67.cell 2
      simp at c1
      obtain ⟨a2, ha2⟩ : ∃ a, a = Pk.rd ((((⟨s.data.toList, false⟩ : Pk.Rd).skip 1).skip 4).take 4) := ⟨_, rfl⟩
      rw [← ha2]
      have HA2 := Lib.hid ha2
      clear ha2
      have S8 := B67.set 2 (.int .i64 (a2 : Int))
      have k8 : Keep [b6] w6 (w6.setCell ⟨b6, 2, none⟩ (.int .i64 (a2 : Int))) := (Keep.refl _ _).setCell (Or.inl (by simp)) _
      have B8 := B7.keep k8 (by simp; omega)
      have K8 : Keep [] w (w6.setCell ⟨b6, 2, none⟩ (.int .i64 (a2 : Int))) := K6.trans k8 (fun x hx => by simp at hx; omega)
      clear B7 K6 B67 k8
      go_wp2
      go_meet
      case rel => exact ⟨⟨false, a1, a2⟩, by rw [HRX.out, HA1.out, HA2.out], S8, B8, K8⟩
  case rest =>
    obtain ⟨x, hx, B6, B0, K⟩ := hcut
    obtain ⟨xd, xl, xs⟩ := x
    have HX := Lib.hid hx
    clear hx I2 K2 B2 HK HB6
    have p0 := B6.cell 0
    have p1 := B6.cell 1
    have p2 := B6.cell 2
    simp only [List.getElem?_cons_zero, List.getElem?_cons_succ] at p0 p1 p2
    go_wp2_with fail
    clear p0 p1 p2
    refine (rvalue_var xd xl xs _).mono ?_
    rintro e w3 ⟨t, b, rfl, hb, ht, k3⟩
    have K3 := K.trans k3 (by simp)
    have B63 := B6.keep k3 (by simp)
    have B03 := B0.keep k3 (by simp)
    clear k3 K B6 B0
    have p0 := B63.cell 0
    have p1 := B63.cell 1
    have p2 := B63.cell 2
    have r0 := B03.cell 0
    have r1 := B03.cell 1
    have r2 := B03.cell 2
    simp only [List.getElem?_cons_zero, List.getElem?_cons_succ] at p0 p1 p2 r0 r1 r2
    have f0 := B03.free 0
    have f1 := B03.free 1
    have f2 := B03.free 2
    by_cases hc : b = true ∧ t = s
    · obtain ⟨rfl, rfl⟩ := hc
      have hy := refNd_yes (x := ⟨xd, xl, xs⟩) hb.symm (by have h1 := congrArg (fun x => x.data.toList) (ht.1 rfl); simp only [txt_list] at h1; exact h1.symm)
      have HY := Lib.hid hy
      clear hy ht hb
      have S := ((B03.set 0 (.bool xd)).set 1 (.int .i64 xl)).set 2 (.int .i64 xs)
      have c0 := S.cell 0
      have c1 := S.cell 1
      have c2 := S.cell 2
      simp at c0 c1 c2
      have K5 : Keep [] w (((w3.setCell ⟨b0, 0, none⟩ (.bool xd)).setCell ⟨b0, 1, none⟩ (.int .i64 xl)).setCell ⟨b0, 2, none⟩ (.int .i64 xs)) := ((K3.setCell (Or.inr hw0) _).setCell (Or.inr hw0) _).setCell (Or.inr hw0) _
      clear S B03 B63 K3
      go_wp2
      refine bodyPost_ret (v := .tuple #[.agg #[.bool xd, .int .i64 xl, .int .i64 xs], .bool true]) (by simp [results, Tryd.results14, go_sem, c0, c1, c2]) rfl ⟨_, _, _, _, rfl, Or.inl ⟨rfl, HY.out⟩, K5⟩
    · have hn : In.of s.data.toList = none := refNd_no HX.out (fun ⟨h1, h2⟩ => hc ⟨by rw [hb]; exact h1, by rw [ht.1 (by rw [hb]; exact h1), h2]; exact (ptxt_of s).symm⟩)
      have HN := Lib.hid hn
      clear hn hb ht
      have S := ((B03.set 0 (.bool false)).set 1 (.int .i64 0)).set 2 (.int .i64 0)
      have c0 := S.cell 0
      have c1 := S.cell 1
      have c2 := S.cell 2
      simp at c0 c1 c2
      have K5 : Keep [] w (((w3.setCell ⟨b0, 0, none⟩ (.bool false)).setCell ⟨b0, 1, none⟩ (.int .i64 0)).setCell ⟨b0, 2, none⟩ (.int .i64 0)) := ((K3.setCell (Or.inr hw0) _).setCell (Or.inr hw0) _).setCell (Or.inr hw0) _
      clear S B03 B63 K3
      cases b with
      | false =>
        clear hc
        go_wp2
        refine bodyPost_ret (v := .tuple #[.agg #[.bool false, .int .i64 0, .int .i64 0], .bool false]) (by simp [results, Tryd.results14, go_sem, c0, c1, c2]) rfl ⟨_, _, _, _, rfl, Or.inr ⟨rfl, HN.out, rfl, rfl, rfl⟩, K5⟩
      | true =>
        have hts := toList_no (fun h : t = s => hc ⟨rfl, h⟩)
        clear hc
        go_wp2
        refine bodyPost_ret (v := .tuple #[.agg #[.bool false, .int .i64 0, .int .i64 0], .bool false]) (by simp [results, Tryd.results14, go_sem, c0, c1, c2]) rfl ⟨_, _, _, _, rfl, Or.inr ⟨rfl, HN.out, rfl, rfl, rfl⟩, K5⟩
end Go.Proofs.YteogkgjajhdhjaaDoor
