/-
  RefsTakes: who is taken is the least that is free: the law returns true, for any number of blocks and any marks. No condition.
-/
import Derived.Test.YtlecdappgpbnlaaRfE
namespace Go.Proofs.Ytlecdappgpbnlaa
open Go.RowKit

theorem info3 : (Try.prog.info? 3).map (fun i => (i.zero, i.size, i.bytes)) = some (some (.int .i64 0), 1, 8) := by kernel_rfl

/-- the counts of blocks, out of a list -/
def fC (cs : List Int) : Int → Int := fun k => if 2 ≤ k then cs.getD k.toNat 0 else 0

theorem fC_at (cs : List Int) {j : Nat} (h : 2 ≤ j) : fC cs j = cs.getD j 0 := by unfold fC; rw [if_pos (by omega), Int.toNat_natCast]
theorem cs_set (cs : List Int) (j i : Nat) (v : Int) (hj : j < cs.length) : (cs.set j v).getD i 0 = if i = j then v else cs.getD i 0 := by
  simp only [List.getD, List.getElem?_set]
  by_cases e : j = i
  · subst e; simp [hj]
  · rw [if_neg e, if_neg (fun h => e h.symm)]
theorem fC_set (cs : List Int) {j : Nat} (h : 2 ≤ j) (hj : j < cs.length) (v : Int) (k : Int) : Rf.upd (fC cs) j v k = fC (cs.set j v) k := by
  by_cases e : k = (j : Int)
  · subst e; rw [Rf.upd_same, fC_at _ h, cs_set _ _ _ _ hj, if_pos rfl]
  · rw [Rf.upd_other e]
    unfold fC
    by_cases c : 2 ≤ k
    · rw [if_pos c, if_pos c, cs_set _ _ _ _ hj, if_neg (by omega)]
    · rw [if_neg c, if_neg c]
theorem fC_zero (B : Nat) (k : Int) : (0 : Int) = fC (List.replicate B 0) k := by
  unfold fC
  split
  · simp only [List.getD, List.getElem?_replicate]; split <;> rfl
  · rfl
theorem fC_cnt (cs : List Int) (h2 : 2 ≤ cs.length) (h : ∀ j, 2 ≤ j → j < cs.length → cs.getD j 0 ≠ 0) : Rf.cntN (fC cs) cs.length = cs.length - 2 := by
  refine Rf.cntN_all _ h2 (by unfold fC; rw [if_neg (by omega)]) (by unfold fC; rw [if_neg (by omega)]) (fun i a b => ?_)
  obtain ⟨j, rfl⟩ := Int.eq_ofNat_of_zero_le (show 0 ≤ i by omega)
  have := h j (by omega) (by omega)
  unfold fC; rw [if_pos a]; exact this

theorem cs_some {cs : List Int} {q : Nat} {c : Int} (hq : q < cs.length) (h : cs.getD q 0 = c) : (cs.map (Value.int .i64))[q]? = some (.int .i64 c) := by
  simp only [List.getD] at h
  rw [List.getElem?_eq_getElem hq] at h
  rw [List.getElem?_map, List.getElem?_eq_getElem hq]
  exact congrArg some (congrArg (Value.int .i64) h)

theorem slice_of_own6 {w : World} {base : Nat} {e : TypeId} {size : Nat} {v : Value} {n : Nat} {xs : List Value} (h : w.ownsRow base e size v n xs) : ∃ ao c, v = .slice ao n c := by
  obtain ⟨_, ao, c, e, _⟩ := RdV.ofOwn h
  exact ⟨ao, c, e⟩

set_option maxRecDepth 100000 in
set_option maxHeartbeats 3200000 in
theorem refsTakes_walk (blocks : Int) (v : Value) (zs : List Int) (w : World) (_h0 : -9223372036854775808 ≤ blocks) (_h1 : blocks ≤ 9223372036854775807) (hrd : RdV w v zs.length 1 (zs.map (Value.int .i64))) (_hzl : zs.length ≤ 9223372036854775807) (hzb : ∀ x ∈ zs, -9223372036854775808 ≤ x ∧ x ≤ 9223372036854775807) :
    Calls Try.prog 4 #[.int .i64 blocks, v] w fun e w' => e = .returned (.bool true) ∧ Keep [] w w' := by
  obtain ⟨hl, ao, cap, rfl, hc, hnn, hcx⟩ := hrd
  have HX := Lib.hid hcx
  have Hnn := Lib.hid hnn
  have HZB := Lib.hid hzb
  clear hl hcx hnn hzb
  obtain ⟨i0, hi, hz0, hz1, hz2⟩ := info_parts info3
  go_enter Try.func4, Try.ntmps4
  go_wp2_with fail
  refine (shown_any w).mono ?_
  rintro e w1 ⟨rfl, k1⟩
  obtain ⟨m, hm, hm1, hmm⟩ := mask16 blocks
  clear hmm
  obtain ⟨B, hB, hB3, hB5⟩ : ∃ B : Nat, 2 + (m : Int) % 1000 = (B : Int) ∧ 2 ≤ B ∧ B ≤ 1001 := ⟨2 + m % 1000, by omega, by omega, by omega⟩
  have hB3I : (2 : Int) ≤ (B : Int) := by omega
  have hB5I : (B : Int) ≤ 1001 := by omega
  go_wp2_with fail
  clear hm
  refine (lnew B w w1 k1 (by omega) (by omega) B (by omega)).mono ?_
  rintro e w2 ⟨r, bm, rfl, h2, k2, _, _⟩
  have hr := h2.hr
  have hbm := h2.hm
  have K2 := k1.trans k2 (by simp)
  obtain ⟨w3, hmk, bF, kF⟩ := make_blk (P := Try.prog) w2 22 3 i0 (.int .i64 0) Try.underlying22 hi hz0 hz1 rfl B (by rw [hz2]; omega) (by omega)
  obtain ⟨fb, hfb⟩ : ∃ b, b = w2.heap.size := ⟨_, rfl⟩
  rw [← hfb] at hmk bF
  have L3 : LRf w.heap.size w3 r bm (fC (List.replicate B 0)) B := (h2.keep kF (by simp) (by simp)).congr (fun k => fC_zero B k)
  have K3 : Keep [] w w3 := K2.trans kF (by simp)
  have hfw : w.heap.size ≤ fb := by rw [hfb]; exact K2.size
  have hne : r ≠ fb ∧ bm ≠ fb := by have := h2.lt; omega
  have hne1 := hne.1
  have hne2 := hne.2
  have bF' : Blk w3 fb ((List.replicate B (0 : Int)).map (Value.int .i64)) 3 := by simpa using bF
  have HBE := Lib.hid hB
  clear h2 k1 k2 hB bF K2 kF hfb hne
  go_wp2
  clear hmk
  go_loopw [8] (fun i wr => ∃ (k : Nat) (cs : List Int), k ≤ zs.length ∧ k ≤ 300 ∧ i = .int .i64 k ∧ cs.length = B ∧ (∀ j, 0 ≤ cs.getD j 0 ∧ cs.getD j 0 ≤ k) ∧ Blk wr fb (cs.map (Value.int .i64)) 3 ∧ LRf w.heap.size wr r bm (fC cs) B ∧ Keep [] w wr) (fun i _ => 300 - (intOf i).toNat)
  case atStart => exact ⟨0, _, Nat.zero_le _, Nat.zero_le _, rfl, List.length_replicate, fun j => by simp only [List.getD, List.getElem?_replicate]; split <;> simp, bF', L3, K3⟩
  case round =>
    clear bF' L3 K3
    obtain ⟨k, cs, hkl, hk300, rfl, hcs, hcb, bF, L, K⟩ := hrel
    have HCS := Lib.hid hcs
    have HCB := Lib.hid hcb
    clear hcs hcb
    by_cases hin : k < zs.length ∧ k < 300
    · obtain ⟨hlt, h300⟩ := hin
      obtain ⟨a, rfl⟩ : ∃ a, ao = some a := by
        cases ao with
        | none => have := (Hnn.out rfl).1; omega
        | some a => exact ⟨a, rfl⟩
      obtain ⟨z, hz⟩ : ∃ z, zs[k]? = some z := ⟨_, List.getElem?_eq_getElem hlt⟩
      have hzz := HZB.out z (List.mem_of_getElem? hz)
      have hz0' := hzz.1
      have hz1' := hzz.2
      have hc0 : w.cell? (a.add k) = some (.int .i64 z) := HX.out a rfl k _ (by simp [hz])
      have hcell : wr.cell? (a.add k) = some (.int .i64 z) := by rw [K.cell (World.block_lt_of_cell? w _ hc0) (by simp)]; exact hc0
      clear hc0 hz hzz
      by_cases hzin : 2 ≤ z ∧ z < (B : Int)
      · obtain ⟨hz2', hzB⟩ := hzin
        obtain ⟨q, rfl⟩ := Int.eq_ofNat_of_zero_le (show 0 ≤ z by omega)
        have hq2 : 2 ≤ q := by omega
        have hqB : q < B := by omega
        obtain ⟨c, hcq⟩ : ∃ c, c = cs.getD q 0 := ⟨_, rfl⟩
        have hc0 : 0 ≤ c := by rw [hcq]; exact (HCB.out q).1
        have hck : c ≤ k := by rw [hcq]; exact (HCB.out q).2
        have HCQ := Lib.hid hcq
        clear hcq
        go_wp2_with fail
        clear hcell
        refine (lmark (q : Int) L (by omega) (by omega) (by rw [fC_at _ hq2, ← HCQ.out]; omega) (c == 0) (by rw [fC_at _ hq2, ← HCQ.out])).mono ?_
        rintro e w4 ⟨rfl, L4, k4⟩
        have L5 := L4.congr (g := fC (cs.set q (c + 1))) (fun i => by rw [fC_at _ hq2, ← HCQ.out]; exact fC_set cs hq2 (by have := HCS.out; omega) (c + 1) i)
        have K4 := own_keep K k4 hr hbm
        have bF4 := bF.keep k4 (by simp; omega)
        have cq := (bF4.cell q).trans (cs_some (by have := HCS.out; omega) HCQ.out.symm)
        have fq := bF4.free q
        have bS := bF4.set q (.int .i64 (c + 1))
        have LS := L5.keep ((Keep.refl [fb] w4).setCell (p := ⟨fb, q, none⟩) (Or.inl (by simp)) (.int .i64 (c + 1))) (by simp; omega) (by simp; omega)
        have KS : Keep [] w (w4.setCell ⟨fb, q, none⟩ (.int .i64 (c + 1))) := K4.setCell (Or.inr hfw) _
        have HS := Lib.hid (And.intro bS (And.intro LS KS))
        clear bS LS KS L4 L5 k4 K4 bF4 L K bF
        have hqBI : (q : Int) < (B : Int) := by omega
        by_cases hc00 : c = 0
        all_goals
          first
            | have hcb0 : (c == 0) = true := by simpa using hc00
            | have hcb0 : (c == 0) = false := by simpa using hc00
          have H00 := Lib.hid hc00
          clear hc00
          go_wp2
          go_roundw
          case rel =>
            refine ⟨k + 1, cs.set q (c + 1), by omega, by omega, by go_num, by rw [List.length_set]; exact HCS.out, fun j => ?_, by rw [List.map_set]; exact HS.out.1, HS.out.2.1, HS.out.2.2⟩
            rw [cs_set _ _ _ _ (by have := HCS.out; omega)]
            have := HCB.out j
            split <;> omega
          case measure => simp [intOf]; omega
      · have hzo : z < 2 ∨ (B : Int) ≤ z := by omega
        have HZO := Lib.hid hzo
        clear hzin hzo
        go_wp2_with fail
        clear hcell
        refine (lmark_no z L HZO.out).mono ?_
        rintro e w4 ⟨rfl, L4, k4⟩
        have K4 := own_keep K k4 hr hbm
        have bF4 := bF.keep k4 (by simp; omega)
        clear k4 K bF L
        have hn : ∀ j, 0 ≤ cs.getD j 0 ∧ cs.getD j 0 ≤ ((k + 1 : Nat) : Int) := fun j => by have := HCB.out j; omega
        have HN := Lib.hid hn
        clear hn
        by_cases hz2' : z < 2
        · go_wp2
          go_roundw
          case rel => exact ⟨k + 1, cs, by omega, by omega, by go_num, HCS.out, HN.out, bF4, L4, K4⟩
          case measure => simp [intOf]; omega
        · have hzB : (B : Int) ≤ z := by have := HZO.out; omega
          go_wp2
          go_roundw
          case rel => exact ⟨k + 1, cs, by omega, by omega, by go_num, HCS.out, HN.out, bF4, L4, K4⟩
          case measure => simp [intOf]; omega
    · have hin' : k < zs.length → 300 ≤ k := fun h => by omega
      clear hin
      by_cases hlt : k < zs.length
      · have h300 := hin' hlt
        clear hin'
        go_wp2
        obtain ⟨wo2, rfl⟩ : ∃ wo2 : World, wo2 = wr := ⟨_, rfl⟩
        go_loopw [12] (fun n wr => ∃ (t : Nat) (cs : List Int), 2 ≤ t ∧ t ≤ B ∧ n = .int .i64 t ∧ cs.length = B ∧ (∀ j, 0 ≤ cs.getD j 0 ∧ cs.getD j 0 ≤ 300) ∧ (∀ j, 2 ≤ j → j < t → cs.getD j 0 ≠ 0) ∧ Blk wr fb (cs.map (Value.int .i64)) 3 ∧ LRf w.heap.size wr r bm (fC cs) B ∧ Keep [] w wr) (fun n _ => B - (intOf n).toNat)
        case atStart => exact ⟨2, cs, by omega, by omega, rfl, HCS.out, fun j => by have := HCB.out j; omega, fun j a b => by omega, bF, L, K⟩
        case round =>
          clear bF L K HCS HCB
          obtain ⟨t, cs, ht2, htB, rfl, hcs, hcb, hpos, bF, L, K⟩ := hrel
          have HCS := Lib.hid hcs
          have HCB := Lib.hid hcb
          have HP := Lib.hid hpos
          clear hcs hcb hpos
          by_cases ht : t < B
          · have htI : (t : Int) < (B : Int) := by omega
            obtain ⟨c, hct⟩ : ∃ c, c = cs.getD t 0 := ⟨_, rfl⟩
            have hc0 : 0 ≤ c := by rw [hct]; exact (HCB.out t).1
            have hc3 : c ≤ 300 := by rw [hct]; exact (HCB.out t).2
            have ct := (bF.cell t).trans (cs_some (by have := HCS.out; omega) hct.symm)
            have HCT := Lib.hid hct
            clear hct
            by_cases hcp : 0 < c
            · go_wp2
              go_roundw
              case rel =>
                refine ⟨t + 1, cs, by omega, by omega, by go_num, HCS.out, HCB.out, fun j a b => ?_, bF, L, K⟩
                by_cases e : j = t
                · rw [e, ← HCT.out]; omega
                · exact HP.out j a (by omega)
              case measure => simp [intOf]; omega
            · obtain rfl : c = 0 := by omega
              clear hcp
              go_wp2_with fail
              refine (ltake (t : Int) L (by omega) (by omega) (by rw [fC_at _ ht2, ← HCT.out]) (fun i a b => ?_)).mono ?_
              · obtain ⟨j, rfl⟩ := Int.eq_ofNat_of_zero_le (show 0 ≤ i by omega)
                rw [fC_at _ (by omega)]; exact HP.out j (by omega) (by omega)
              rintro e w4 ⟨rfl, L4, k4⟩
              have L5 := L4.congr (g := fC (cs.set t 1)) (fun i => fC_set cs ht2 (by have := HCS.out; omega) 1 i)
              have K4 := own_keep K k4 hr hbm
              have bF4 := bF.keep k4 (by simp; omega)
              have fq := bF4.free t
              have cq := (bF4.cell t).trans (cs_some (by have := HCS.out; omega) HCT.out.symm)
              have bS := bF4.set t (.int .i64 1)
              have LS := L5.keep ((Keep.refl [fb] w4).setCell (p := ⟨fb, t, none⟩) (Or.inl (by simp)) (.int .i64 1)) (by simp; omega) (by simp; omega)
              have KS : Keep [] w (w4.setCell ⟨fb, t, none⟩ (.int .i64 1)) := K4.setCell (Or.inr hfw) _
              have HS := Lib.hid (And.intro bS (And.intro LS KS))
              clear bS LS KS L4 L5 k4 K4 bF4 L K bF ct
              go_wp2
              go_roundw
              case rel =>
                refine ⟨t + 1, cs.set t 1, by omega, by omega, by go_num, by rw [List.length_set]; exact HCS.out, fun j => ?_, fun j a b => ?_, by rw [List.map_set]; exact HS.out.1, HS.out.2.1, HS.out.2.2⟩
                · rw [cs_set _ _ _ _ (by have := HCS.out; omega)]
                  have := HCB.out j
                  split <;> omega
                · rw [cs_set _ _ _ _ (by have := HCS.out; omega)]
                  by_cases e : j = t
                  · rw [if_pos e]; omega
                  · rw [if_neg e]; exact HP.out j a (by omega)
              case measure => simp [intOf]; omega
          · obtain rfl : t = B := by omega
            clear ht htB
            go_wp2_with fail
            refine (ltake_none L (fun i a b => ?_)).mono ?_
            · obtain ⟨j, rfl⟩ := Int.eq_ofNat_of_zero_le (show 0 ≤ i by omega)
              rw [fC_at _ (by omega)]; exact HP.out j (by omega) (by omega)
            rintro e w4 ⟨rfl, L4, k4⟩
            have K4 := own_keep K k4 hr hbm
            have bF4 := bF.keep k4 (by simp; omega)
            clear k4 K L bF
            go_wp2
            obtain ⟨wo3, rfl⟩ : ∃ wo3 : World, wo3 = wr := ⟨_, rfl⟩
            go_loopw [17] (fun n wr => ∃ u : Nat, 2 ≤ u ∧ u ≤ t ∧ n = .int .i64 u ∧ Blk wr fb (cs.map (Value.int .i64)) 3 ∧ LRf w.heap.size wr r bm (fC cs) t ∧ Keep [] w wr) (fun n _ => t - (intOf n).toNat)
            case atStart => exact ⟨2, by omega, by omega, rfl, bF4, L4, K4⟩
            case round =>
              clear bF4 L4 K4
              obtain ⟨u, hu2, hut, rfl, bF, L, K⟩ := hrel
              by_cases hu : u < t
              · have huI : (u : Int) < (t : Int) := by omega
                have hu0 : (0 : Int) ≤ (u : Int) := by omega
                obtain ⟨c, hct⟩ : ∃ c, c = cs.getD u 0 := ⟨_, rfl⟩
                have ct := (bF.cell u).trans (cs_some (by have := HCS.out; omega) hct.symm)
                have q : ∀ n, Calls Try.prog 14 #[.pointer (some ⟨r, 0, none⟩), .int .i64 (u : Int)] (wr.drewN n) fun e w' => e = .returned (.int .i64 c) ∧ w' = wr.drewN n := fun n =>
                  (lcount (L.keep ((Keep.refl [] wr).drewN n) (by simp) (by simp)) (u : Int) (by omega) (by omega)).mono fun e w' ⟨he, hw⟩ => ⟨by rw [he, fC_at _ hu2, hct], hw.symm⟩
                have HCT := Lib.hid hct
                clear hct
                go_wp2
                go_quiet ((go_at_call 14; exact Calls.quiet_of_same (q _)))
                have bq := bF.keep ((Keep.refl [] wr).drewN nq) (by simp)
                have Lq := L.keep ((Keep.refl [] wr).drewN nq) (by simp) (by simp)
                have Kq := K.drewN nq
                clear bF L K q ct
                generalize wr.drewN nq = wq at *
                go_wp2
                go_roundw
                case rel => exact ⟨u + 1, by omega, by omega, by go_num, bq, Lq, Kq⟩
                case measure => simp [intOf]; omega
              · obtain rfl : u = t := by omega
                have hcn := fC_cnt cs (by have := HCS.out; omega) (fun j a b => HP.out j a (by have := HCS.out; omega))
                rw [HCS.out] at hcn
                have HCN := Lib.hid hcn
                clear hcn
                go_wp2_with fail
                refine (lfree L 0 (by rw [Int.toNat_natCast, HCN.out]; omega)).mono ?_
                rintro e w5 ⟨rfl, k5⟩
                have L5 := L.keep k5 (by simp) (by simp)
                have K5 := K.trans k5 (by simp)
                clear L K k5
                obtain ⟨⟨low, h5⟩, _, _⟩ := L5
                go_wp2_with fail
                refine (rused_any r bm _ _ low w5 h5).mono ?_
                rintro e w6 ⟨v6, rfl, o6, k6⟩
                obtain ⟨a6, c6, rfl⟩ := slice_of_own6 o6
                obtain ⟨q6, hq6⟩ : ∃ q, q = Rf.cntN (fC cs) (u : Int).toNat := ⟨_, rfl⟩
                have hlen : ((q6 : Int) == (u : Int) - 2) = true := by rw [hq6, Int.toNat_natCast, HCN.out, beq_iff_eq]; omega
                rw [← hq6]
                clear o6 hq6
                go_wp2
                go_ret
                exact ⟨by simp, K5.trans k6 (by simp)⟩
      · clear hin'
        go_wp2
        obtain ⟨wo2, rfl⟩ : ∃ wo2 : World, wo2 = wr := ⟨_, rfl⟩
        go_loopw [12] (fun n wr => ∃ (t : Nat) (cs : List Int), 2 ≤ t ∧ t ≤ B ∧ n = .int .i64 t ∧ cs.length = B ∧ (∀ j, 0 ≤ cs.getD j 0 ∧ cs.getD j 0 ≤ 300) ∧ (∀ j, 2 ≤ j → j < t → cs.getD j 0 ≠ 0) ∧ Blk wr fb (cs.map (Value.int .i64)) 3 ∧ LRf w.heap.size wr r bm (fC cs) B ∧ Keep [] w wr) (fun n _ => B - (intOf n).toNat)
        case atStart => exact ⟨2, cs, by omega, by omega, rfl, HCS.out, fun j => by have := HCB.out j; omega, fun j a b => by omega, bF, L, K⟩
        case round =>
          clear bF L K HCS HCB
          obtain ⟨t, cs, ht2, htB, rfl, hcs, hcb, hpos, bF, L, K⟩ := hrel
          have HCS := Lib.hid hcs
          have HCB := Lib.hid hcb
          have HP := Lib.hid hpos
          clear hcs hcb hpos
          by_cases ht : t < B
          · have htI : (t : Int) < (B : Int) := by omega
            obtain ⟨c, hct⟩ : ∃ c, c = cs.getD t 0 := ⟨_, rfl⟩
            have hc0 : 0 ≤ c := by rw [hct]; exact (HCB.out t).1
            have hc3 : c ≤ 300 := by rw [hct]; exact (HCB.out t).2
            have ct := (bF.cell t).trans (cs_some (by have := HCS.out; omega) hct.symm)
            have HCT := Lib.hid hct
            clear hct
            by_cases hcp : 0 < c
            · go_wp2
              go_roundw
              case rel =>
                refine ⟨t + 1, cs, by omega, by omega, by go_num, HCS.out, HCB.out, fun j a b => ?_, bF, L, K⟩
                by_cases e : j = t
                · rw [e, ← HCT.out]; omega
                · exact HP.out j a (by omega)
              case measure => simp [intOf]; omega
            · obtain rfl : c = 0 := by omega
              clear hcp
              go_wp2_with fail
              refine (ltake (t : Int) L (by omega) (by omega) (by rw [fC_at _ ht2, ← HCT.out]) (fun i a b => ?_)).mono ?_
              · obtain ⟨j, rfl⟩ := Int.eq_ofNat_of_zero_le (show 0 ≤ i by omega)
                rw [fC_at _ (by omega)]; exact HP.out j (by omega) (by omega)
              rintro e w4 ⟨rfl, L4, k4⟩
              have L5 := L4.congr (g := fC (cs.set t 1)) (fun i => fC_set cs ht2 (by have := HCS.out; omega) 1 i)
              have K4 := own_keep K k4 hr hbm
              have bF4 := bF.keep k4 (by simp; omega)
              have fq := bF4.free t
              have cq := (bF4.cell t).trans (cs_some (by have := HCS.out; omega) HCT.out.symm)
              have bS := bF4.set t (.int .i64 1)
              have LS := L5.keep ((Keep.refl [fb] w4).setCell (p := ⟨fb, t, none⟩) (Or.inl (by simp)) (.int .i64 1)) (by simp; omega) (by simp; omega)
              have KS : Keep [] w (w4.setCell ⟨fb, t, none⟩ (.int .i64 1)) := K4.setCell (Or.inr hfw) _
              have HS := Lib.hid (And.intro bS (And.intro LS KS))
              clear bS LS KS L4 L5 k4 K4 bF4 L K bF ct
              go_wp2
              go_roundw
              case rel =>
                refine ⟨t + 1, cs.set t 1, by omega, by omega, by go_num, by rw [List.length_set]; exact HCS.out, fun j => ?_, fun j a b => ?_, by rw [List.map_set]; exact HS.out.1, HS.out.2.1, HS.out.2.2⟩
                · rw [cs_set _ _ _ _ (by have := HCS.out; omega)]
                  have := HCB.out j
                  split <;> omega
                · rw [cs_set _ _ _ _ (by have := HCS.out; omega)]
                  by_cases e : j = t
                  · rw [if_pos e]; omega
                  · rw [if_neg e]; exact HP.out j a (by omega)
              case measure => simp [intOf]; omega
          · obtain rfl : t = B := by omega
            clear ht htB
            go_wp2_with fail
            refine (ltake_none L (fun i a b => ?_)).mono ?_
            · obtain ⟨j, rfl⟩ := Int.eq_ofNat_of_zero_le (show 0 ≤ i by omega)
              rw [fC_at _ (by omega)]; exact HP.out j (by omega) (by omega)
            rintro e w4 ⟨rfl, L4, k4⟩
            have K4 := own_keep K k4 hr hbm
            have bF4 := bF.keep k4 (by simp; omega)
            clear k4 K L bF
            go_wp2
            obtain ⟨wo3, rfl⟩ : ∃ wo3 : World, wo3 = wr := ⟨_, rfl⟩
            go_loopw [17] (fun n wr => ∃ u : Nat, 2 ≤ u ∧ u ≤ t ∧ n = .int .i64 u ∧ Blk wr fb (cs.map (Value.int .i64)) 3 ∧ LRf w.heap.size wr r bm (fC cs) t ∧ Keep [] w wr) (fun n _ => t - (intOf n).toNat)
            case atStart => exact ⟨2, by omega, by omega, rfl, bF4, L4, K4⟩
            case round =>
              clear bF4 L4 K4
              obtain ⟨u, hu2, hut, rfl, bF, L, K⟩ := hrel
              by_cases hu : u < t
              · have huI : (u : Int) < (t : Int) := by omega
                have hu0 : (0 : Int) ≤ (u : Int) := by omega
                obtain ⟨c, hct⟩ : ∃ c, c = cs.getD u 0 := ⟨_, rfl⟩
                have ct := (bF.cell u).trans (cs_some (by have := HCS.out; omega) hct.symm)
                have q : ∀ n, Calls Try.prog 14 #[.pointer (some ⟨r, 0, none⟩), .int .i64 (u : Int)] (wr.drewN n) fun e w' => e = .returned (.int .i64 c) ∧ w' = wr.drewN n := fun n =>
                  (lcount (L.keep ((Keep.refl [] wr).drewN n) (by simp) (by simp)) (u : Int) (by omega) (by omega)).mono fun e w' ⟨he, hw⟩ => ⟨by rw [he, fC_at _ hu2, hct], hw.symm⟩
                have HCT := Lib.hid hct
                clear hct
                go_wp2
                go_quiet ((go_at_call 14; exact Calls.quiet_of_same (q _)))
                have bq := bF.keep ((Keep.refl [] wr).drewN nq) (by simp)
                have Lq := L.keep ((Keep.refl [] wr).drewN nq) (by simp) (by simp)
                have Kq := K.drewN nq
                clear bF L K q ct
                generalize wr.drewN nq = wq at *
                go_wp2
                go_roundw
                case rel => exact ⟨u + 1, by omega, by omega, by go_num, bq, Lq, Kq⟩
                case measure => simp [intOf]; omega
              · obtain rfl : u = t := by omega
                have hcn := fC_cnt cs (by have := HCS.out; omega) (fun j a b => HP.out j a (by have := HCS.out; omega))
                rw [HCS.out] at hcn
                have HCN := Lib.hid hcn
                clear hcn
                go_wp2_with fail
                refine (lfree L 0 (by rw [Int.toNat_natCast, HCN.out]; omega)).mono ?_
                rintro e w5 ⟨rfl, k5⟩
                have L5 := L.keep k5 (by simp) (by simp)
                have K5 := K.trans k5 (by simp)
                clear L K k5
                obtain ⟨⟨low, h5⟩, _, _⟩ := L5
                go_wp2_with fail
                refine (rused_any r bm _ _ low w5 h5).mono ?_
                rintro e w6 ⟨v6, rfl, o6, k6⟩
                obtain ⟨a6, c6, rfl⟩ := slice_of_own6 o6
                obtain ⟨q6, hq6⟩ : ∃ q, q = Rf.cntN (fC cs) (u : Int).toNat := ⟨_, rfl⟩
                have hlen : ((q6 : Int) == (u : Int) - 2) = true := by rw [hq6, Int.toNat_natCast, HCN.out, beq_iff_eq]; omega
                rw [← hq6]
                clear o6 hq6
                go_wp2
                go_ret
                exact ⟨by simp, K5.trans k6 (by simp)⟩

theorem refsTakes_readable : Try.f4.params.toList.all (fun t => Try.prog.readableRec t && decide (t < Try.prog.types.size)) = true := by kernel_rfl

open Go.ChangeShapes Go.WideShapes Go.ChangeAt in
set_option maxRecDepth 100000 in
theorem refsTakes_contract (H : Type) (enc : TypeId × Value → H) (W : World) (base : Nat) (args : Array Value) (ds gs : List (DataW H)) (before : List MemPlace)
    (hval : ∀ (j : Nat) t v, Try.f4.params[j]? = some t → args[j]? = some v → Value.okWide Try.prog W .any base t v)
    (hW : DataW.Whole enc Try.prog Try.f4.params.toList Rows.refsTakesSpec.vars false W args.toList ds gs before) :
    Calls Try.prog 4 args W fun e W' => ∃ v, e = .returned v ∧ Rows.refsTakesSpec.post enc Try.prog Try.f4 false true false false W args v W' := by
  have hW' := hW
  obtain ⟨p, q, hA0, hV, rfl, _, _⟩ := hW
  have hA : DataW.TrodAll enc Try.prog W 0 (fun _ => true) true Try.f4.params.toList args.toList ds p := hA0
  rw [Try.params4] at hA hval
  obtain ⟨v0, v1, d0, d1, p0, p1, rfl, rfl, rfl, h0, h1⟩ := trodAll_two hA
  obtain ⟨rfl, rfl⟩ := trodVars_none hV
  obtain ⟨a0, rfl, rfl, rfl, w0⟩ := open_int Try.underlying3 (hval 0 3 v0 rfl rfl) h0
  obtain ⟨zs, hrd, hl, hzb⟩ := open_numbers (e := 3) Try.underlying22 Try.underlying3 (by kernel_rfl) (hval 1 22 v1 rfl rfl) h1
  have hb := wf_i64 w0
  refine (refsTakes_walk a0 v1 zs W hb.1 hb.2 hrd hl hzb).mono fun e W' ⟨he, hk⟩ => ?_
  subst he
  exact ⟨_, rfl, law_post Try.laidOut refsTakes_readable rfl Try.underlying4 rfl hW' rfl hk.below0⟩

set_option maxRecDepth 100000 in
theorem refsTakes_lifted (os : Os) (started : os.Started) (H : Type) (enc : TypeId × Value → H) :
    ReturnsInHanded {} Try.checked os 4 .any (Rows.refsTakesSpec.pre6 enc Try.prog Try.f4 Rows.refsTakesRow.domain false) (Rows.refsTakesSpec.post enc Try.prog Try.f4 false true false false) := by
  refine returnsInHanded_of_change_sized (C := Try.checked) Try.own started (by kernel_rfl) Try.func4
    (ChangeSpec.witness6 (enc := enc) (C := Try.checked) false ⟨#[], #[.int .i64 0, .slice none 0 0], []⟩ 8 (by kernel_rfl) (by kernel_rfl) (by kernel_rfl) (by kernel_rfl)) ?_
  intro W base args ds gs before hval hW _ _ _
  exact refsTakes_contract H enc W base args ds gs before hval hW

theorem refsTakes_holds : Rows.RefsTakesSaid :=
  OpenClaim.holds_of_wide 4 Try.f4 rfl rfl rfl rfl rfl rfl rfl ⟨rfl, rfl, rfl, rfl, rfl⟩ rfl rfl rfl rfl rfl (by kernel_rfl) Try.func4 (by kernel_rfl)
    (of_decide_eq_true (by kernel_rfl)) (by unfold Func.isWrapper; first | (rw [if_pos (by decide +kernel)]; kernel_rfl) | (rw [if_neg (by decide +kernel)]; exact ⟨rfl, rfl⟩))
    (fun os started H enc _ => refsTakes_lifted os started H enc)

#print axioms refsTakes_holds
end Go.Proofs.Ytlecdappgpbnlaa
