/-
  Package inode: Of. No condition but that the text is not too long.
-/
import Derived.Test.YteogkgjajhdhjaaDoorInB
namespace Go.Proofs.YteogkgjajhdhjaaDoor
open Go.RowKit

/-- what Of answers -/
def InOf (s : ByteArray) (w w' : World) (e : Ending) : Prop :=
  Keep [] w w' ∧ ((∃ x, In.of s.data.toList = some x ∧ e = .returned (.tuple #[.agg #[.bool x.dir, .int .i64 x.links, .int .i64 x.size], .bool true])) ∨ (In.of s.data.toList = none ∧ e = .returned (.tuple #[.agg #[.bool false, .int .i64 0, .int .i64 0], .bool false])))

theorem InOf.no {s : ByteArray} {w w' : World} {e : Ending} (h : In.of s.data.toList = none) (he : e = .returned (.tuple #[.agg #[.bool false, .int .i64 0, .int .i64 0], .bool false])) (k : Keep [] w w') : InOf s w w' e := ⟨k, Or.inr ⟨h, he⟩⟩
theorem InOf.yes {s : ByteArray} {w w' : World} {e : Ending} {x : In.Nd} (h : In.of s.data.toList = some x) (he : e = .returned (.tuple #[.agg #[.bool x.dir, .int .i64 x.links, .int .i64 x.size], .bool true])) (k : Keep [] w w') : InOf s w w' e := ⟨k, Or.inl ⟨x, h, he⟩⟩

theorem rd3_one {v : List UInt8} (h : Pk.rd ((⟨v, false⟩ : Pk.Rd).take 1) = 1) : In.rd3 v = (⟨true, 0, 0⟩, (⟨v, false⟩ : Pk.Rd).skip 1) := by
  unfold In.rd3; simp only [h, if_true]
theorem rd3_two {v : List UInt8} (h : Pk.rd ((⟨v, false⟩ : Pk.Rd).take 1) = 2) : In.rd3 v = (⟨false, Pk.rd (((⟨v, false⟩ : Pk.Rd).skip 1).take 4), Pk.rd ((((⟨v, false⟩ : Pk.Rd).skip 1).skip 4).take 4)⟩, (((⟨v, false⟩ : Pk.Rd).skip 1).skip 4).skip 4) := by
  unfold In.rd3; simp only [h]; rfl
theorem rd3_else {v : List UInt8} (h1 : Pk.rd ((⟨v, false⟩ : Pk.Rd).take 1) ≠ 1) (h2 : Pk.rd ((⟨v, false⟩ : Pk.Rd).take 1) ≠ 2) : In.rd3 v = (⟨false, 0, 0⟩, (⟨v, false⟩ : Pk.Rd).skip 1) := by
  unfold In.rd3; simp only [h1, h2, if_false]

set_option maxRecDepth 100000 in
set_option maxHeartbeats 3200000 in
theorem of_any (s : ByteArray) (w : World) (hs : s.size ≤ 140737488351232) : Calls Tryd.prog 13 #[.string s] w fun e w' => InOf s w w' e := by
  obtain ⟨wA, hwA⟩ : ∃ wA, wA = w.alloc (.cells #[.bool false, .int .i64 0, .int .i64 0] 28) := ⟨_, rfl⟩
  have KA : Keep [] w wA := by rw [hwA]; exact (Keep.refl _ _).alloc _
  have BA : Blk wA w.heap.size [.bool false, .int .i64 0, .int .i64 0] 28 := by rw [hwA]; exact Blk.new' w _ _
  obtain ⟨c, w1, hcv, rd1, K1⟩ := conv_text wA s hs
  have hl : s.data.toList.length = s.size := by rw [Array.length_toList]; rfl
  obtain ⟨g, hg⟩ : ∃ g, g = wA.heap.size := ⟨_, rfl⟩
  rw [← hg] at hcv rd1
  obtain ⟨v, hv⟩ : ∃ v, v = s.data.toList := ⟨_, rfl⟩
  have hsz : v.length ≤ 140737488351232 := by rw [hv, hl]; exact hs
  rw [← hv] at rd1
  have HV := Lib.hid hv
  rw [hwA] at hcv
  have hgI : g = w.heap.size + 1 := by rw [hg, hwA, World.size_alloc]
  have HG := Lib.hid hgI
  have HWA := Lib.hid hwA
  clear hg hl hv hwA hgI
  obtain ⟨b2, hb2e⟩ : ∃ b, b = w.heap.size := ⟨_, rfl⟩
  have hb2 : w.heap.size ≤ b2 := by omega
  rw [← hb2e] at BA
  go_enter Tryd.func13, Tryd.ntmps13
  go_wp2_with fail
  rw [← hb2e]
  have HB2 := Lib.hid hb2e
  clear hcv hb2e
  have B21 := BA.keep K1 (by simp)
  refine (read_any _ v w1 rd1 hsz).mono ?_
  rintro e w2 ⟨br, u2, rfl, h2, k2, brl, q2⟩
  have R2 := LR.new (w0 := w) (KA.trans K1 (by simp)) h2 brl q2
  have K2 := (KA.trans K1 (by simp)).trans k2 (by simp)
  have B22 := B21.keep k2 (by simp)
  have hb2br : b2 < br := by have := B21.lt; omega
  have hfp : ∀ x ∈ fpOf u2, b2 < x := fun x hx => by have := B21.lt; have := q2 x hx; omega
  clear h2 brl q2 rd1 k2 B21 K1 BA KA
  go_wp2_with fail
  obtain ⟨b5, hb5⟩ : ∃ b, b = w2.heap.size := ⟨_, rfl⟩
  obtain ⟨w3, hw3⟩ : ∃ x, x = w2.alloc (.cells #[.bool false, .int .i64 0, .int .i64 0] 28) := ⟨_, rfl⟩
  have B53 : Blk w3 b5 [.bool false, .int .i64 0, .int .i64 0] 28 := by rw [hw3, hb5]; exact Blk.new' w2 _ _
  have k3 : Keep [] w2 w3 := by rw [hw3]; exact (Keep.refl _ _).alloc _
  have hb5br : ∀ x ∈ rfp br u2, x < b5 := fun x hx => by have := R2.lt x hx; omega
  have hb25 : b2 < b5 := by have := B22.lt; omega
  have hwb5 : w.heap.size ≤ b5 := by have := K2.size; omega
  rw [← hb5, ← hw3]
  clear hb5 hw3
  have R3 := R2.keep k3 (by simp)
  have K3 := K2.trans k3 (by simp)
  have B23 := B22.keep k3 (by simp)
  clear R2 K2 B22 k3
  refine (rbyte_any br u2 _ _ R3.isr).mono ?_
  rintro e w4 ⟨rfl, o⟩
  obtain ⟨u4, R4, K4, k4, hu4⟩ := LR.step (w0 := w) R3 K3 o
  have hb5r4 : ∀ x ∈ rfp br u4, x < b5 := fun x hx => hb5br x (hu4 x hx)
  have hbr5 : br < b5 := hb5br br (by simp [rfp])
  have B24 := B23.keep k4 (by simp; omega)
  have B54 := B53.keep k4 (by simp; omega)
  clear R3 K3 o B23 B53 k4 hu4 hb5br
  obtain ⟨k, hk⟩ : ∃ k, k = Pk.rd ((⟨v, false⟩ : Pk.Rd).take 1) := ⟨_, rfl⟩
  rw [← hk]
  have HK := Lib.hid hk
  clear hk
  have d0 := B54.cell 0
  have d1 := B54.cell 1
  have d2 := B54.cell 2
  simp only [List.getElem?_cons_zero, List.getElem?_cons_succ] at d0 d1 d2
  have e0 := B54.free 0
  have e1 := B54.free 1
  have e2 := B54.free 2
  by_cases hk1 : k = 1
  · have H1 := Lib.hid (show Pk.rd ((⟨v, false⟩ : Pk.Rd).take 1) = 1 by rw [← HK.out, hk1])
    subst hk1
    have kS : Keep [b5] w4 (w4.setCell ⟨b5, 0, none⟩ (.bool true)) := (Keep.refl _ _).setCell (Or.inl (by simp)) _
    have B5 : Blk (w4.setCell ⟨b5, 0, none⟩ (.bool true)) b5 [.bool true, .int .i64 0, .int .i64 0] 28 := B54.set 0 _
    have B2 := B24.keep kS (by simp; omega)
    have R5 := R4.keep kS (fun x hx => by have := hb5r4 x hx; simp; omega)
    have K5 := K4.trans kS (by simp; omega)
    clear kS B24 B54 R4 K4
    go_wp2_with fail
    clear d0 d1 d2 e0 e1 e2
    generalize w4.setCell ⟨b5, 0, none⟩ (.bool true) = w5 at *
    obtain ⟨r, hr⟩ : ∃ r, r = (⟨v, false⟩ : Pk.Rd).skip 1 := ⟨_, rfl⟩
    rw [← hr] at R5
    have HE := Lib.hid (show In.rd3 v = (⟨true, 0, 0⟩, r) by rw [hr]; exact rd3_one H1.out)
    clear hr
    have p0 := B5.cell 0
    have p1 := B5.cell 1
    have p2 := B5.cell 2
    simp only [List.getElem?_cons_zero, List.getElem?_cons_succ] at p0 p1 p2
    have c0 := B2.cell 0
    have c1 := B2.cell 1
    have c2 := B2.cell 2
    simp only [List.getElem?_cons_zero, List.getElem?_cons_succ] at c0 c1 c2
    have f0 := B2.free 0
    have f1 := B2.free 1
    have f2 := B2.free 2
    cases hbad : r.bad with
    | true =>
      have HB := Lib.hid hbad
      clear hbad
      go_wp2_with fail
      refine (wrong_any br _ _ _ R5.isr).mono ?_
      rintro e w6 ⟨rfl, rfl⟩
      rw [HB.out]
      go_wp2
      refine bodyPost_ret (v := .tuple #[.agg #[.bool false, .int .i64 0, .int .i64 0], .bool false]) (by simp [results, Tryd.results13, go_sem, c0, c1, c2]) rfl (InOf.no ?_ rfl ?_)
      · rw [← HV.out]; unfold In.of; rw [HE.out, if_neg (fun h => by rw [HB.out] at h; exact absurd h.1 (by decide))]
      · exact ((K5.setCell (Or.inr hb2) _).setCell (Or.inr hb2) _).setCell (Or.inr hb2) _
    | false =>
      have HB := Lib.hid hbad
      clear hbad
      go_wp2_with fail
      refine (wrong_any br _ _ _ R5.isr).mono ?_
      rintro e w6 ⟨rfl, rfl⟩
      rw [HB.out]
      go_wp2_with fail
      refine (left_any br _ _ _ R5.isr).mono ?_
      rintro e w6 ⟨rfl, rfl⟩
      obtain ⟨q, hq⟩ : ∃ q, q = r.b.length := ⟨_, rfl⟩
      rw [← hq]
      have HQ := Lib.hid hq
      clear hq
      by_cases hq0 : 0 < q
      · have hqI : (0 : Int) < (q : Int) := by omega
        go_wp2
        refine bodyPost_ret (v := .tuple #[.agg #[.bool false, .int .i64 0, .int .i64 0], .bool false]) (by simp [results, Tryd.results13, go_sem, c0, c1, c2]) rfl (InOf.no ?_ rfl ?_)
        · rw [← HV.out]; unfold In.of; rw [HE.out, if_neg (fun h => by have h2 : r.b.length = 0 := h.2.1; have := HQ.out; omega)]
        · exact ((K5.setCell (Or.inr hb2) _).setCell (Or.inr hb2) _).setCell (Or.inr hb2) _
      · obtain rfl : q = 0 := by omega
        clear hq0
        go_wp2_with fail
        refine (inright_any true 0 0 _).mono ?_
        rintro e w6 ⟨rfl, k6⟩
        have K6 := K5.trans k6 (by simp)
        have B26 := B2.keep k6 (by simp)
        have B56 := B5.keep k6 (by simp)
        clear p0 p1 p2 c0 c1 c2 f0 f1 f2
        have p0 := B56.cell 0
        have p1 := B56.cell 1
        have p2 := B56.cell 2
        simp only [List.getElem?_cons_zero, List.getElem?_cons_succ] at p0 p1 p2
        have c0 := B26.cell 0
        have c1 := B26.cell 1
        have c2 := B26.cell 2
        simp only [List.getElem?_cons_zero, List.getElem?_cons_succ] at c0 c1 c2
        have f0 := B26.free 0
        have f1 := B26.free 1
        have f2 := B26.free 2
        cases hrt : In.right true 0 0 with
        | true =>
          have HR := Lib.hid hrt
          clear hrt
          go_wp2
          refine bodyPost_ret (v := .tuple #[.agg #[.bool true, .int .i64 0, .int .i64 0], .bool true]) (by simp [results, Tryd.results13, go_sem, c0, c1, c2]) rfl (InOf.yes (x := ⟨true, 0, 0⟩) ?_ rfl ?_)
          · rw [← HV.out]; unfold In.of; rw [HE.out, if_pos ⟨HB.out, HQ.out.symm, HR.out⟩]
          · exact ((K6.setCell (Or.inr hb2) _).setCell (Or.inr hb2) _).setCell (Or.inr hb2) _
        | false =>
          have HR := Lib.hid hrt
          clear hrt
          go_wp2
          refine bodyPost_ret (v := .tuple #[.agg #[.bool false, .int .i64 0, .int .i64 0], .bool false]) (by simp [results, Tryd.results13, go_sem, c0, c1, c2]) rfl (InOf.no ?_ rfl ?_)
          · rw [← HV.out]; unfold In.of; rw [HE.out, if_neg (fun h => by rw [HR.out] at h; exact absurd h.2.2 (by decide))]
          · exact ((K6.setCell (Or.inr hb2) _).setCell (Or.inr hb2) _).setCell (Or.inr hb2) _
  · by_cases hk2 : k = 2
    · have H2 := Lib.hid (show Pk.rd ((⟨v, false⟩ : Pk.Rd).take 1) = 2 by rw [← HK.out, hk2])
      subst hk2
      obtain ⟨r1, hr1⟩ : ∃ r, r = (⟨v, false⟩ : Pk.Rd).skip 1 := ⟨_, rfl⟩
      rw [← hr1] at R4
      have HR1 := Lib.hid hr1
      clear hr1 d0 d1 d2 e0 e1 e2
      go_wp2_with fail
      refine (rword_any br u4 _ _ R4.isr).mono ?_
      rintro e wa ⟨rfl, o⟩
      obtain ⟨ua, Ra, Ka, ka, hua⟩ := LR.step (w0 := w) R4 K4 o
      have B2a := B24.keep ka (by simp; omega)
      have B5a := B54.keep ka (by simp; omega)
      have hra : ∀ x ∈ rfp br ua, x < b5 := fun x hx => hb5r4 x (hua x hx)
      clear R4 K4 o ka hua B24 B54
      obtain ⟨l, hll⟩ : ∃ l, l = Pk.rd (r1.take 4) := ⟨_, rfl⟩
      rw [← hll]
      have HL := Lib.hid hll
      clear hll
      obtain ⟨r2, hr2⟩ : ∃ r, r = r1.skip 4 := ⟨_, rfl⟩
      rw [← hr2] at Ra
      have HR2 := Lib.hid hr2
      clear hr2
      go_wp2_with fail
      refine (rword_any br ua _ _ Ra.isr).mono ?_
      rintro e wb ⟨rfl, o⟩
      obtain ⟨ub, Rb, Kb, kb, hub⟩ := LR.step (w0 := w) Ra Ka o
      have B2b := B2a.keep kb (by simp; omega)
      have B5b := B5a.keep kb (by simp; omega)
      have hrb : ∀ x ∈ rfp br ub, x < b5 := fun x hx => hra x (hub x hx)
      clear Ra Ka o kb hub B2a B5a
      obtain ⟨sz, hsz2⟩ : ∃ l, l = Pk.rd (r2.take 4) := ⟨_, rfl⟩
      rw [← hsz2]
      have HS := Lib.hid hsz2
      clear hsz2
      have d1 := B5b.cell 1
      have d2 := B5b.cell 2
      simp only [List.getElem?_cons_zero, List.getElem?_cons_succ] at d1 d2
      have e1 := B5b.free 1
      have e2 := B5b.free 2
      have kS : Keep [b5] wb ((wb.setCell ⟨b5, 1, none⟩ (.int .i64 l)).setCell ⟨b5, 2, none⟩ (.int .i64 sz)) := ((Keep.refl _ _).setCell (Or.inl (by simp)) _).setCell (Or.inl (by simp)) _
      have B5 : Blk ((wb.setCell ⟨b5, 1, none⟩ (.int .i64 l)).setCell ⟨b5, 2, none⟩ (.int .i64 sz)) b5 [.bool false, .int .i64 l, .int .i64 sz] 28 := (B5b.set 1 _).set 2 _
      have B2 := B2b.keep kS (by simp; omega)
      have R5 := Rb.keep kS (fun x hx => by have := hrb x hx; simp; omega)
      have K5 := Kb.trans kS (by simp; omega)
      clear kS B2b B5b Rb Kb
      go_wp2_with fail
      clear d1 d2 e1 e2
      generalize (wb.setCell ⟨b5, 1, none⟩ (.int .i64 l)).setCell ⟨b5, 2, none⟩ (.int .i64 sz) = w5 at *
      obtain ⟨r, hr⟩ : ∃ r, r = r2.skip 4 := ⟨_, rfl⟩
      rw [← hr] at R5
      have HE := Lib.hid (show In.rd3 v = (⟨false, l, sz⟩, r) by rw [hr]; rw [rd3_two H2.out, HS.out, HL.out, HR2.out, HR1.out])
      clear hr
      have p0 := B5.cell 0
      have p1 := B5.cell 1
      have p2 := B5.cell 2
      simp only [List.getElem?_cons_zero, List.getElem?_cons_succ] at p0 p1 p2
      have c0 := B2.cell 0
      have c1 := B2.cell 1
      have c2 := B2.cell 2
      simp only [List.getElem?_cons_zero, List.getElem?_cons_succ] at c0 c1 c2
      have f0 := B2.free 0
      have f1 := B2.free 1
      have f2 := B2.free 2
      cases hbad : r.bad with
      | true =>
        have HB := Lib.hid hbad
        clear hbad
        go_wp2_with fail
        refine (wrong_any br _ _ _ R5.isr).mono ?_
        rintro e w6 ⟨rfl, rfl⟩
        rw [HB.out]
        go_wp2
        refine bodyPost_ret (v := .tuple #[.agg #[.bool false, .int .i64 0, .int .i64 0], .bool false]) (by simp [results, Tryd.results13, go_sem, c0, c1, c2]) rfl (InOf.no ?_ rfl ?_)
        · rw [← HV.out]; unfold In.of; rw [HE.out, if_neg (fun h => by rw [HB.out] at h; exact absurd h.1 (by decide))]
        · exact ((K5.setCell (Or.inr hb2) _).setCell (Or.inr hb2) _).setCell (Or.inr hb2) _
      | false =>
        have HB := Lib.hid hbad
        clear hbad
        go_wp2_with fail
        refine (wrong_any br _ _ _ R5.isr).mono ?_
        rintro e w6 ⟨rfl, rfl⟩
        rw [HB.out]
        go_wp2_with fail
        refine (left_any br _ _ _ R5.isr).mono ?_
        rintro e w6 ⟨rfl, rfl⟩
        obtain ⟨q, hq⟩ : ∃ q, q = r.b.length := ⟨_, rfl⟩
        rw [← hq]
        have HQ := Lib.hid hq
        clear hq
        by_cases hq0 : 0 < q
        · have hqI : (0 : Int) < (q : Int) := by omega
          go_wp2
          refine bodyPost_ret (v := .tuple #[.agg #[.bool false, .int .i64 0, .int .i64 0], .bool false]) (by simp [results, Tryd.results13, go_sem, c0, c1, c2]) rfl (InOf.no ?_ rfl ?_)
          · rw [← HV.out]; unfold In.of; rw [HE.out, if_neg (fun h => by have h2 : r.b.length = 0 := h.2.1; have := HQ.out; omega)]
          · exact ((K5.setCell (Or.inr hb2) _).setCell (Or.inr hb2) _).setCell (Or.inr hb2) _
        · obtain rfl : q = 0 := by omega
          clear hq0
          go_wp2_with fail
          refine (inright_any false l sz _).mono ?_
          rintro e w6 ⟨rfl, k6⟩
          have K6 := K5.trans k6 (by simp)
          have B26 := B2.keep k6 (by simp)
          have B56 := B5.keep k6 (by simp)
          clear p0 p1 p2 c0 c1 c2 f0 f1 f2
          have p0 := B56.cell 0
          have p1 := B56.cell 1
          have p2 := B56.cell 2
          simp only [List.getElem?_cons_zero, List.getElem?_cons_succ] at p0 p1 p2
          have c0 := B26.cell 0
          have c1 := B26.cell 1
          have c2 := B26.cell 2
          simp only [List.getElem?_cons_zero, List.getElem?_cons_succ] at c0 c1 c2
          have f0 := B26.free 0
          have f1 := B26.free 1
          have f2 := B26.free 2
          cases hrt : In.right false l sz with
          | true =>
            have HR := Lib.hid hrt
            clear hrt
            go_wp2
            refine bodyPost_ret (v := .tuple #[.agg #[.bool false, .int .i64 l, .int .i64 sz], .bool true]) (by simp [results, Tryd.results13, go_sem, c0, c1, c2]) rfl (InOf.yes (x := ⟨false, l, sz⟩) ?_ rfl ?_)
            · rw [← HV.out]; unfold In.of; rw [HE.out, if_pos ⟨HB.out, HQ.out.symm, HR.out⟩]
            · exact ((K6.setCell (Or.inr hb2) _).setCell (Or.inr hb2) _).setCell (Or.inr hb2) _
          | false =>
            have HR := Lib.hid hrt
            clear hrt
            go_wp2
            refine bodyPost_ret (v := .tuple #[.agg #[.bool false, .int .i64 0, .int .i64 0], .bool false]) (by simp [results, Tryd.results13, go_sem, c0, c1, c2]) rfl (InOf.no ?_ rfl ?_)
            · rw [← HV.out]; unfold In.of; rw [HE.out, if_neg (fun h => by rw [HR.out] at h; exact absurd h.2.2 (by decide))]
            · exact ((K6.setCell (Or.inr hb2) _).setCell (Or.inr hb2) _).setCell (Or.inr hb2) _
    · have H3 := Lib.hid (show Pk.rd ((⟨v, false⟩ : Pk.Rd).take 1) ≠ 1 ∧ Pk.rd ((⟨v, false⟩ : Pk.Rd).take 1) ≠ 2 by rw [← HK.out]; exact ⟨hk1, hk2⟩)
      have hk1b : ((k : Int) == 1) = false := by rw [beq_eq_false_iff_ne]; omega
      have hk2b : ((k : Int) == 2) = false := by rw [beq_eq_false_iff_ne]; omega
      have B5 := B54
      have B2 := B24
      have R5 := R4
      have K5 := K4
      clear B54 B24 R4 K4 hk1 hk2 d0 d1 d2 e0 e1 e2
      go_wp2_with fail
      obtain ⟨r, hr⟩ : ∃ r, r = (⟨v, false⟩ : Pk.Rd).skip 1 := ⟨_, rfl⟩
      rw [← hr] at R5
      have HE := Lib.hid (show In.rd3 v = (⟨false, 0, 0⟩, r) by rw [hr]; exact rd3_else H3.out.1 H3.out.2)
      clear hr
      have p0 := B5.cell 0
      have p1 := B5.cell 1
      have p2 := B5.cell 2
      simp only [List.getElem?_cons_zero, List.getElem?_cons_succ] at p0 p1 p2
      have c0 := B2.cell 0
      have c1 := B2.cell 1
      have c2 := B2.cell 2
      simp only [List.getElem?_cons_zero, List.getElem?_cons_succ] at c0 c1 c2
      have f0 := B2.free 0
      have f1 := B2.free 1
      have f2 := B2.free 2
      cases hbad : r.bad with
      | true =>
        have HB := Lib.hid hbad
        clear hbad
        go_wp2_with fail
        refine (wrong_any br _ _ _ R5.isr).mono ?_
        rintro e w6 ⟨rfl, rfl⟩
        rw [HB.out]
        go_wp2
        refine bodyPost_ret (v := .tuple #[.agg #[.bool false, .int .i64 0, .int .i64 0], .bool false]) (by simp [results, Tryd.results13, go_sem, c0, c1, c2]) rfl (InOf.no ?_ rfl ?_)
        · rw [← HV.out]; unfold In.of; rw [HE.out, if_neg (fun h => by rw [HB.out] at h; exact absurd h.1 (by decide))]
        · exact ((K5.setCell (Or.inr hb2) _).setCell (Or.inr hb2) _).setCell (Or.inr hb2) _
      | false =>
        have HB := Lib.hid hbad
        clear hbad
        go_wp2_with fail
        refine (wrong_any br _ _ _ R5.isr).mono ?_
        rintro e w6 ⟨rfl, rfl⟩
        rw [HB.out]
        go_wp2_with fail
        refine (left_any br _ _ _ R5.isr).mono ?_
        rintro e w6 ⟨rfl, rfl⟩
        obtain ⟨q, hq⟩ : ∃ q, q = r.b.length := ⟨_, rfl⟩
        rw [← hq]
        have HQ := Lib.hid hq
        clear hq
        by_cases hq0 : 0 < q
        · have hqI : (0 : Int) < (q : Int) := by omega
          go_wp2
          refine bodyPost_ret (v := .tuple #[.agg #[.bool false, .int .i64 0, .int .i64 0], .bool false]) (by simp [results, Tryd.results13, go_sem, c0, c1, c2]) rfl (InOf.no ?_ rfl ?_)
          · rw [← HV.out]; unfold In.of; rw [HE.out, if_neg (fun h => by have h2 : r.b.length = 0 := h.2.1; have := HQ.out; omega)]
          · exact ((K5.setCell (Or.inr hb2) _).setCell (Or.inr hb2) _).setCell (Or.inr hb2) _
        · obtain rfl : q = 0 := by omega
          clear hq0
          go_wp2_with fail
          refine (inright_any false 0 0 _).mono ?_
          rintro e w6 ⟨rfl, k6⟩
          have K6 := K5.trans k6 (by simp)
          have B26 := B2.keep k6 (by simp)
          have B56 := B5.keep k6 (by simp)
          clear p0 p1 p2 c0 c1 c2 f0 f1 f2
          have p0 := B56.cell 0
          have p1 := B56.cell 1
          have p2 := B56.cell 2
          simp only [List.getElem?_cons_zero, List.getElem?_cons_succ] at p0 p1 p2
          have c0 := B26.cell 0
          have c1 := B26.cell 1
          have c2 := B26.cell 2
          simp only [List.getElem?_cons_zero, List.getElem?_cons_succ] at c0 c1 c2
          have f0 := B26.free 0
          have f1 := B26.free 1
          have f2 := B26.free 2
          cases hrt : In.right false 0 0 with
          | true =>
            have HR := Lib.hid hrt
            clear hrt
            go_wp2
            refine bodyPost_ret (v := .tuple #[.agg #[.bool false, .int .i64 0, .int .i64 0], .bool true]) (by simp [results, Tryd.results13, go_sem, c0, c1, c2]) rfl (InOf.yes (x := ⟨false, 0, 0⟩) ?_ rfl ?_)
            · rw [← HV.out]; unfold In.of; rw [HE.out, if_pos ⟨HB.out, HQ.out.symm, HR.out⟩]
            · exact ((K6.setCell (Or.inr hb2) _).setCell (Or.inr hb2) _).setCell (Or.inr hb2) _
          | false =>
            have HR := Lib.hid hrt
            clear hrt
            go_wp2
            refine bodyPost_ret (v := .tuple #[.agg #[.bool false, .int .i64 0, .int .i64 0], .bool false]) (by simp [results, Tryd.results13, go_sem, c0, c1, c2]) rfl (InOf.no ?_ rfl ?_)
            · rw [← HV.out]; unfold In.of; rw [HE.out, if_neg (fun h => by rw [HR.out] at h; exact absurd h.2.2 (by decide))]
            · exact ((K6.setCell (Or.inr hb2) _).setCell (Or.inr hb2) _).setCell (Or.inr hb2) _
end Go.Proofs.YteogkgjajhdhjaaDoor
