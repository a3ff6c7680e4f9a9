/-
  RefsLeast: the least that was let go is the next that is taken: the law returns true, for any number of blocks and any that are let go. No condition.
-/
import Derived.Test.YtlecdappgpbnlaaRfD
namespace Go.Proofs.Ytlecdappgpbnlaa
open Go.RowKit

theorem Try.info4 : (Try.prog.info? 4).map (fun i => (i.zero, i.size, i.bytes)) = some (some (.bool false), 1, 1) := by kernel_rfl

/-- all below n are taken -/
def fTo (n : Int) : Int → Int := fun k => if 2 ≤ k ∧ k < n then 1 else 0
/-- all below n, and those that were not let go -/
def fFree (fl : List Bool) (n : Int) : Int → Int := fun k => if 2 ≤ k ∧ k < fl.length then (if k < n then 1 else if fl.getD k.toNat false then 0 else 1) else 0

theorem fTo_step {n : Int} (h : 2 ≤ n) (k : Int) : Rf.upd (fTo n) n 1 k = fTo (n + 1) k := by
  unfold Rf.upd fTo
  by_cases e : k = n
  · subst e; rw [if_pos rfl, if_pos (by omega)]
  · rw [if_neg e]
    by_cases c : 2 ≤ k ∧ k < n
    · rw [if_pos c, if_pos (by omega)]
    · rw [if_neg c, if_neg (by omega)]

theorem fTo_free (B : Nat) (k : Int) : fTo B k = fFree (List.replicate B false) 2 k := by
  unfold fTo fFree
  rw [List.length_replicate]
  by_cases c : 2 ≤ k ∧ k < (B : Int)
  · have hf : (List.replicate B false).getD k.toNat false = false := by
      simp only [List.getD, List.getElem?_replicate]
      split <;> rfl
    rw [if_pos c, if_pos c, if_neg (by omega), hf]
    rfl
  · rw [if_neg c, if_neg c]

theorem fFree_in {fl : List Bool} {j : Nat} (h2 : 2 ≤ j) (hj : j < fl.length) : fFree fl 2 j = if fl.getD j false then 0 else 1 := by
  unfold fFree
  rw [if_pos (by omega), if_neg (by omega), Int.toNat_natCast]

theorem getD_set (fl : List Bool) (j i : Nat) (hj : j < fl.length) : (fl.set j true).getD i false = if i = j then true else fl.getD i false := by
  simp only [List.getD, List.getElem?_set]
  by_cases e : j = i
  · subst e; simp [hj]
  · rw [if_neg e, if_neg (fun h => e h.symm)]

theorem fFree_gone {fl : List Bool} {j : Nat} (h2 : 2 ≤ j) (hj : j < fl.length) (hf : fl.getD j false = false) (k : Int) : Rf.upd (fFree fl 2) j (fFree fl 2 j - 1) k = fFree (fl.set j true) 2 k := by
  have hl : (fl.set j true).length = fl.length := List.length_set
  by_cases e : k = (j : Int)
  · subst e
    rw [Rf.upd_same, fFree_in h2 hj, fFree_in h2 (by omega), hf, getD_set _ _ _ hj, if_pos rfl]
    rfl
  · rw [Rf.upd_other e]
    unfold fFree
    rw [hl]
    by_cases c : 2 ≤ k ∧ k < (fl.length : Int)
    · have hn : ¬ (k < 2) := by omega
      have hn' : ¬ (k.toNat = j) := by omega
      simp only [if_pos c, if_neg hn, getD_set _ _ _ hj, if_neg hn']
    · simp only [if_neg c]

theorem fFree_again {fl : List Bool} {j : Nat} (hj : j < fl.length) (hf : fl.getD j false = true) (k : Int) : fFree fl 2 k = fFree (fl.set j true) 2 k := by
  unfold fFree
  rw [List.length_set, getD_set _ _ _ hj]
  by_cases e : k.toNat = j
  · rw [if_pos e, e, hf]
  · rw [if_neg e]

theorem fFree_take {fl : List Bool} {j : Nat} (h2 : 2 ≤ j) (hj : j < fl.length) (k : Int) : Rf.upd (fFree fl j) j 1 k = fFree fl ((j : Int) + 1) k := by
  by_cases e : k = (j : Int)
  · subst e
    have c : 2 ≤ (j : Int) ∧ (j : Int) < (fl.length : Int) := by omega
    have d : (j : Int) < (j : Int) + 1 := by omega
    rw [Rf.upd_same]
    simp only [fFree, if_pos c, if_pos d]
  · rw [Rf.upd_other e]
    by_cases c : 2 ≤ k ∧ k < (fl.length : Int)
    · by_cases d : k < (j : Int)
      · have d' : k < (j : Int) + 1 := by omega
        simp only [fFree, if_pos c, if_pos d, if_pos d']
      · have d' : ¬ (k < (j : Int) + 1) := by omega
        simp only [fFree, if_pos c, if_neg d, if_neg d']
    · simp only [fFree, if_neg c]

theorem fFree_skip {fl : List Bool} {j : Nat} (hf : fl.getD j false = false) (k : Int) : fFree fl j k = fFree fl ((j : Int) + 1) k := by
  by_cases e : k = (j : Int)
  · subst e
    have d : (j : Int) < (j : Int) + 1 := by omega
    have d' : ¬ ((j : Int) < (j : Int)) := by omega
    by_cases c : 2 ≤ (j : Int) ∧ (j : Int) < (fl.length : Int)
    · simp only [fFree, if_pos c, if_pos d, if_neg d', Int.toNat_natCast, hf]; rfl
    · simp only [fFree, if_neg c]
  · by_cases c : 2 ≤ k ∧ k < (fl.length : Int)
    · by_cases d : k < (j : Int)
      · have d' : k < (j : Int) + 1 := by omega
        simp only [fFree, if_pos c, if_pos d, if_pos d']
      · have d' : ¬ (k < (j : Int) + 1) := by omega
        simp only [fFree, if_pos c, if_neg d, if_neg d']
    · simp only [fFree, if_neg c]

theorem fFree_low (fl : List Bool) (n k : Int) (h2 : 2 ≤ k) (h : k < n) (hl : k < fl.length) : fFree fl n k ≠ 0 := by
  unfold fFree
  rw [if_pos (by omega), if_pos h]; omega

theorem fFree_at {fl : List Bool} {j : Nat} (h2 : 2 ≤ j) (hj : j < fl.length) (hf : fl.getD j false = true) : fFree fl j j = 0 := by
  unfold fFree
  rw [if_pos (by omega), if_neg (by omega), Int.toNat_natCast, hf]; rfl

theorem fFree_cnt (fl : List Bool) (h : 2 ≤ fl.length) : (fl.length : Int) - 2 - Rf.cntN (fFree fl fl.length) (fl.length : Int).toNat = 0 := by
  rw [Int.toNat_natCast, Rf.cntN_all fl.length h (by unfold fFree; rw [if_neg (by omega)]) (by unfold fFree; rw [if_neg (by omega)]) (fun i a b => fFree_low fl _ i a b b)]
  omega

theorem getD_some {fl : List Bool} {q : Nat} {b : Bool} (hq : q < fl.length) (h : fl.getD q false = b) : (fl.map Value.bool)[q]? = some (.bool b) := by
  simp only [List.getD] at h
  rw [List.getElem?_eq_getElem hq] at h
  rw [List.getElem?_map, List.getElem?_eq_getElem hq]
  exact congrArg some (congrArg Value.bool h)

set_option maxRecDepth 100000 in
set_option maxHeartbeats 1600000 in
theorem refsLeast_walk (blocks : Int) (v : Value) (zs : List Int) (w : World) (_h0 : -9223372036854775808 ≤ blocks) (_h1 : blocks ≤ 9223372036854775807) (hrd : RdV w v zs.length 1 (zs.map (Value.int .i64))) (_hzl : zs.length ≤ 9223372036854775807) :
    Calls Try.prog 3 #[.int .i64 blocks, v] w fun e w' => e = .returned (.bool true) ∧ Keep [] w w' := by
  obtain ⟨hl, ao, cap, rfl, hc, hnn, hcx⟩ := hrd
  have HX := Lib.hid hcx
  have Hnn := Lib.hid hnn
  clear hl hcx hnn
  obtain ⟨i0, hi, hz0, hz1, hz2⟩ := info_parts Try.info4
  go_enter Try.func3, Try.ntmps3
  go_wp2_with fail
  refine (shown_any w).mono ?_
  rintro e w1 ⟨rfl, k1⟩
  obtain ⟨m, hm, hm1, hmm⟩ := mask16 blocks
  clear hmm
  obtain ⟨B, hB, hB3, hB5⟩ : ∃ B : Nat, 3 + (m : Int) % 500 = (B : Int) ∧ 3 ≤ B ∧ B ≤ 502 := ⟨3 + m % 500, by omega, by omega, by omega⟩
  have hB3I : (3 : Int) ≤ (B : Int) := by omega
  have hB5I : (B : Int) ≤ 502 := by omega
  go_wp2_with fail
  clear hm
  refine (lnew B w w1 k1 (by omega) (by omega) B (by omega)).mono ?_
  rintro e w2 ⟨r, bm, rfl, h2, k2, _, _⟩
  have hr := h2.hr
  have hbm := h2.hm
  have K2 := k1.trans k2 (by simp)
  have h2' : LRf w.heap.size w2 r bm (fTo 2) B := h2.congr (fun k => by unfold fTo; rw [if_neg (by omega)])
  have HBE := Lib.hid hB
  clear h2 k1 k2 hB
  go_wp2_with fail
  go_loopw [7] (fun n wr => ∃ j : Nat, 2 ≤ j ∧ j ≤ B ∧ n = .int .i64 j ∧ LRf w.heap.size wr r bm (fTo j) B ∧ Keep [] w wr) (fun n _ => B - (intOf n).toNat)
  case atStart => exact ⟨2, by omega, by omega, rfl, h2', K2⟩
  case round =>
    clear h2' K2
    obtain ⟨j, hj2, hjB, rfl, L, K⟩ := hrel
    by_cases hlt : j < B
    · go_wp2_with fail
      refine (ltake (j : Int) L (by omega) (by omega) (by unfold fTo; rw [if_neg (by omega)]) (fun k a b => by unfold fTo; rw [if_pos (by omega)]; omega)).mono ?_
      rintro e w3 ⟨rfl, L3, k3⟩
      have L4 := L3.congr (g := fTo ((j + 1 : Nat) : Int)) (fun k => fTo_step (by omega) k)
      have K3 := own_keep K k3 hr hbm
      clear L3 L k3 K
      go_wp2
      go_roundw
      case rel => exact ⟨j + 1, by omega, by omega, by go_num, L4, K3⟩
      case measure => simp [intOf]; omega
    · obtain rfl : j = B := by omega
      obtain ⟨w3, hmk, bF, kF⟩ := make_blk (P := Try.prog) wr 28 4 i0 (.bool false) Try.underlying28 hi hz0 hz1 rfl j (by rw [hz2]; omega) (by omega)
      obtain ⟨fb, hfb⟩ : ∃ b, b = wr.heap.size := ⟨_, rfl⟩
      rw [← hfb] at hmk bF
      have L3 : LRf w.heap.size w3 r bm (fFree (List.replicate j false) 2) j := (L.keep kF (by simp) (by simp)).congr (fun k => fTo_free j k)
      have K3 : Keep [] w w3 := K.trans kF (by simp)
      have hfw : w.heap.size ≤ fb := by rw [hfb]; exact K.size
      have hne : r ≠ fb ∧ bm ≠ fb := by have := L.lt; omega
      have bF' : Blk w3 fb ((List.replicate j false).map Value.bool) 4 := by simpa using bF
      clear bF L K kF hfb
      go_wp2
      clear hmk
      obtain ⟨wo, rfl⟩ : ∃ wo : World, wo = wr := ⟨_, rfl⟩
      go_loopw [11] (fun i wr => ∃ (k : Nat) (fl : List Bool), k ≤ zs.length ∧ k ≤ 100 ∧ i = .int .i64 k ∧ fl.length = j ∧ Blk wr fb (fl.map Value.bool) 4 ∧ LRf w.heap.size wr r bm (fFree fl 2) j ∧ Keep [] w wr) (fun i _ => 100 - (intOf i).toNat)
      case atStart => exact ⟨0, _, Nat.zero_le _, Nat.zero_le _, rfl, List.length_replicate, bF', L3, K3⟩
      case round =>
        clear bF' L3 K3
        obtain ⟨k, fl, hkl, hk100, rfl, hfl, bF, L, K⟩ := hrel
        by_cases hin : k < zs.length ∧ k < 100
        · obtain ⟨hlt, h100⟩ := hin
          obtain ⟨a, rfl⟩ : ∃ a, ao = some a := by
            cases ao with
            | none => have := (Hnn.out rfl).1; omega
            | some a => exact ⟨a, rfl⟩
          obtain ⟨z, hz⟩ : ∃ z, zs[k]? = some z := ⟨_, List.getElem?_eq_getElem hlt⟩
          have hc0 : w.cell? (a.add k) = some (.int .i64 z) := HX.out a rfl k _ (by simp [hz])
          have hcell : wr.cell? (a.add k) = some (.int .i64 z) := by rw [K.cell (World.block_lt_of_cell? w _ hc0) (by simp)]; exact hc0
          obtain ⟨m2, hm2, hm2b, hmm⟩ := mask24 z
          obtain ⟨q, hq, hq2, hqB⟩ : ∃ q : Nat, 2 + (m2 : Int) % ((j : Int) - 2) = (q : Int) ∧ 2 ≤ q ∧ q < j := by
            have h1 := Int.emod_nonneg (m2 : Int) (show (j : Int) - 2 ≠ 0 by omega)
            have h2 := Int.emod_lt_of_pos (m2 : Int) (show 0 < (j : Int) - 2 by omega)
            exact ⟨(2 + (m2 : Int) % ((j : Int) - 2)).toNat, by omega, by omega, by omega⟩
          have HFL := Lib.hid hfl
          clear hc0 hz hmm hfl
          have hj2I : (2 : Int) < (j : Int) := by omega
          have hqI : (q : Int) < (j : Int) := by omega
          have hne1 := hne.1
          have hne2 := hne.2
          cases hfq : fl.getD q false with
          | true =>
            go_wp2_with fail
            clear hm2 hcell
            refine (ldec_no (q : Int) L (by omega) (by omega) (by rw [fFree_in hq2 (by have := HFL.out; omega), hfq]; rfl)).mono ?_
            rintro e w4 ⟨rfl, L4, k4⟩
            have L5 := L4.congr (fun i => fFree_again (j := q) (by have := HFL.out; omega) hfq i)
            have K4 := own_keep K k4 hr hbm
            have bF4 := bF.keep k4 (by simp; omega)
            have cq := bF4.cell q
            rw [List.getElem?_map, show fl[q]? = some true by simp only [List.getD] at hfq; rw [List.getElem?_eq_getElem (by have := HFL.out; omega)] at hfq ⊢; exact congrArg some hfq] at cq
            simp only [Option.map_some] at cq
            have fq := bF4.free q
            have bS := bF4.set q (.bool true)
            have LS := L5.keep ((Keep.refl [fb] w4).setCell (p := ⟨fb, q, none⟩) (Or.inl (by simp)) (.bool true)) (by simp; omega) (by simp; omega)
            have KS : Keep [] w (w4.setCell ⟨fb, q, none⟩ (.bool true)) := K4.setCell (Or.inr hfw) _
            have HS := Lib.hid (And.intro bS (And.intro LS KS))
            have HQ := Lib.hid hfq
            clear bS LS KS L4 L5 k4 K4 bF4 L K bF hfq hq
            go_wp2
            go_roundw
            case rel => exact ⟨k + 1, fl.set q true, by omega, by omega, by go_num, by rw [List.length_set]; exact HFL.out, by rw [List.map_set]; exact HS.out.1, HS.out.2.1, HS.out.2.2⟩
            case measure => simp [intOf]; omega
          | false =>
            go_wp2_with fail
            clear hm2 hcell
            refine (ldec (q : Int) L (by omega) (by omega) (by rw [fFree_in hq2 (by have := HFL.out; omega), hfq]; simp) (by rw [fFree_in hq2 (by have := HFL.out; omega), hfq]; simp) true (by rw [fFree_in hq2 (by have := HFL.out; omega), hfq]; rfl)).mono ?_
            rintro e w4 ⟨rfl, L4, k4⟩
            have L5 := L4.congr (fun i => fFree_gone (j := q) hq2 (by have := HFL.out; omega) hfq i)
            have K4 := own_keep K k4 hr hbm
            have bF4 := bF.keep k4 (by simp; omega)
            have cq := bF4.cell q
            rw [List.getElem?_map, show fl[q]? = some false by simp only [List.getD] at hfq; rw [List.getElem?_eq_getElem (by have := HFL.out; omega)] at hfq ⊢; exact congrArg some hfq] at cq
            simp only [Option.map_some] at cq
            have fq := bF4.free q
            have bS := bF4.set q (.bool true)
            have LS := L5.keep ((Keep.refl [fb] w4).setCell (p := ⟨fb, q, none⟩) (Or.inl (by simp)) (.bool true)) (by simp; omega) (by simp; omega)
            have KS : Keep [] w (w4.setCell ⟨fb, q, none⟩ (.bool true)) := K4.setCell (Or.inr hfw) _
            have HS := Lib.hid (And.intro bS (And.intro LS KS))
            have HQ := Lib.hid hfq
            clear bS LS KS L4 L5 k4 K4 bF4 L K bF hfq hq
            go_wp2
            go_roundw
            case rel => exact ⟨k + 1, fl.set q true, by omega, by omega, by go_num, by rw [List.length_set]; exact HFL.out, by rw [List.map_set]; exact HS.out.1, HS.out.2.1, HS.out.2.2⟩
            case measure => simp [intOf]; omega
        · have hin' : k < zs.length → 100 ≤ k := fun h => by omega
          have HFL := Lib.hid hfl
          clear hfl
          clear hin
          by_cases hlt : k < zs.length
          · have h100 := hin' hlt
            clear hin'
            go_wp2
            obtain ⟨wo2, rfl⟩ : ∃ wo2 : World, wo2 = wr := ⟨_, rfl⟩
            go_loopw [15] (fun n wr => ∃ t : Nat, 2 ≤ t ∧ t ≤ j ∧ n = .int .i64 t ∧ Blk wr fb (fl.map Value.bool) 4 ∧ LRf w.heap.size wr r bm (fFree fl t) j ∧ Keep [] w wr) (fun n _ => j - (intOf n).toNat)
            case atStart => exact ⟨2, by omega, by omega, rfl, bF, L, K⟩
            case round =>
              clear bF L K
              obtain ⟨t, ht2, htj, rfl, bF, L, K⟩ := hrel
              have hne1 := hne.1
              have hne2 := hne.2
              by_cases ht : t < j
              · have htl : t < fl.length := by have := HFL.out; omega
                have htI : (t : Int) < (j : Int) := by omega
                cases hft : fl.getD t false with
                | false =>
                  have ct := (bF.cell t).trans (getD_some htl hft)
                  have HT := Lib.hid hft
                  clear hft
                  have L2 := L.congr (g := fFree fl ((t + 1 : Nat) : Int)) (fun i => fFree_skip HT.out i)
                  clear L
                  go_wp2
                  go_roundw
                  case rel => exact ⟨t + 1, by omega, by omega, by go_num, bF, L2, K⟩
                  case measure => simp [intOf]; omega
                | true =>
                  have ct := (bF.cell t).trans (getD_some htl hft)
                  have HT := Lib.hid hft
                  clear hft
                  go_wp2_with fail
                  refine (ltake (t : Int) L (by omega) (by omega) (fFree_at ht2 htl HT.out) (fun i a b => fFree_low fl _ i a b (by omega))).mono ?_
                  rintro e w4 ⟨rfl, L4, k4⟩
                  have L5 := L4.congr (g := fFree fl ((t + 1 : Nat) : Int)) (fun i => fFree_take ht2 htl i)
                  have K4 := own_keep K k4 hr hbm
                  have bF4 := bF.keep k4 (by simp; omega)
                  clear L4 L K bF k4 ct
                  go_wp2
                  go_roundw
                  case rel => exact ⟨t + 1, by omega, by omega, by go_num, bF4, L5, K4⟩
                  case measure => simp [intOf]; omega
              · obtain rfl : t = j := by omega
                go_wp2_with fail
                refine (ltake_none L (fun i a b => fFree_low fl _ i a b (by have := HFL.out; omega))).mono ?_
                rintro e w4 ⟨rfl, L4, k4⟩
                have K4 := own_keep K k4 hr hbm
                have hz := fFree_cnt fl (by have := HFL.out; omega)
                rw [HFL.out] at hz
                have HZ := Lib.hid hz
                clear hz L K bF k4
                go_wp2_with fail
                refine (lfree L4 0 HZ.out).mono ?_
                rintro e w5 ⟨rfl, k5⟩
                go_wp2
                go_ret
                exact ⟨rfl, K4.trans k5 (by simp)⟩
          · clear hin'
            go_wp2
            obtain ⟨wo2, rfl⟩ : ∃ wo2 : World, wo2 = wr := ⟨_, rfl⟩
            go_loopw [15] (fun n wr => ∃ t : Nat, 2 ≤ t ∧ t ≤ j ∧ n = .int .i64 t ∧ Blk wr fb (fl.map Value.bool) 4 ∧ LRf w.heap.size wr r bm (fFree fl t) j ∧ Keep [] w wr) (fun n _ => j - (intOf n).toNat)
            case atStart => exact ⟨2, by omega, by omega, rfl, bF, L, K⟩
            case round =>
              clear bF L K
              obtain ⟨t, ht2, htj, rfl, bF, L, K⟩ := hrel
              have hne1 := hne.1
              have hne2 := hne.2
              by_cases ht : t < j
              · have htl : t < fl.length := by have := HFL.out; omega
                have htI : (t : Int) < (j : Int) := by omega
                cases hft : fl.getD t false with
                | false =>
                  have ct := (bF.cell t).trans (getD_some htl hft)
                  have HT := Lib.hid hft
                  clear hft
                  have L2 := L.congr (g := fFree fl ((t + 1 : Nat) : Int)) (fun i => fFree_skip HT.out i)
                  clear L
                  go_wp2
                  go_roundw
                  case rel => exact ⟨t + 1, by omega, by omega, by go_num, bF, L2, K⟩
                  case measure => simp [intOf]; omega
                | true =>
                  have ct := (bF.cell t).trans (getD_some htl hft)
                  have HT := Lib.hid hft
                  clear hft
                  go_wp2_with fail
                  refine (ltake (t : Int) L (by omega) (by omega) (fFree_at ht2 htl HT.out) (fun i a b => fFree_low fl _ i a b (by omega))).mono ?_
                  rintro e w4 ⟨rfl, L4, k4⟩
                  have L5 := L4.congr (g := fFree fl ((t + 1 : Nat) : Int)) (fun i => fFree_take ht2 htl i)
                  have K4 := own_keep K k4 hr hbm
                  have bF4 := bF.keep k4 (by simp; omega)
                  clear L4 L K bF k4 ct
                  go_wp2
                  go_roundw
                  case rel => exact ⟨t + 1, by omega, by omega, by go_num, bF4, L5, K4⟩
                  case measure => simp [intOf]; omega
              · obtain rfl : t = j := by omega
                go_wp2_with fail
                refine (ltake_none L (fun i a b => fFree_low fl _ i a b (by have := HFL.out; omega))).mono ?_
                rintro e w4 ⟨rfl, L4, k4⟩
                have K4 := own_keep K k4 hr hbm
                have hz := fFree_cnt fl (by have := HFL.out; omega)
                rw [HFL.out] at hz
                have HZ := Lib.hid hz
                clear hz L K bF k4
                go_wp2_with fail
                refine (lfree L4 0 HZ.out).mono ?_
                rintro e w5 ⟨rfl, k5⟩
                go_wp2
                go_ret
                exact ⟨rfl, K4.trans k5 (by simp)⟩


theorem refsLeast_readable : Try.f3.params.toList.all (fun t => Try.prog.readableRec t && decide (t < Try.prog.types.size)) = true := by kernel_rfl

open Go.ChangeShapes Go.WideShapes Go.ChangeAt in
set_option maxRecDepth 100000 in
theorem refsLeast_contract (H : Type) (enc : TypeId × Value → H) (W : World) (base : Nat) (args : Array Value) (ds gs : List (DataW H)) (before : List MemPlace)
    (hval : ∀ (j : Nat) t v, Try.f3.params[j]? = some t → args[j]? = some v → Value.okWide Try.prog W .any base t v)
    (hW : DataW.Whole enc Try.prog Try.f3.params.toList Rows.refsLeastSpec.vars false W args.toList ds gs before) :
    Calls Try.prog 3 args W fun e W' => ∃ v, e = .returned v ∧ Rows.refsLeastSpec.post enc Try.prog Try.f3 false true false false W args v W' := by
  have hW' := hW
  obtain ⟨p, q, hA0, hV, rfl, _, _⟩ := hW
  have hA : DataW.TrodAll enc Try.prog W 0 (fun _ => true) true Try.f3.params.toList args.toList ds p := hA0
  rw [Try.params3] at hA hval
  obtain ⟨v0, v1, d0, d1, p0, p1, rfl, rfl, rfl, h0, h1⟩ := trodAll_two hA
  obtain ⟨rfl, rfl⟩ := trodVars_none hV
  obtain ⟨a0, rfl, rfl, rfl, w0⟩ := open_int Try.underlying3 (hval 0 3 v0 rfl rfl) h0
  obtain ⟨zs, hrd, hl, _⟩ := open_numbers (e := 3) Try.underlying22 Try.underlying3 (by kernel_rfl) (hval 1 22 v1 rfl rfl) h1
  have hb := wf_i64 w0
  refine (refsLeast_walk a0 v1 zs W hb.1 hb.2 hrd hl).mono fun e W' ⟨he, hk⟩ => ?_
  subst he
  exact ⟨_, rfl, law_post Try.laidOut refsLeast_readable rfl Try.underlying4 rfl hW' rfl hk.below0⟩

set_option maxRecDepth 100000 in
theorem refsLeast_lifted (os : Os) (started : os.Started) (H : Type) (enc : TypeId × Value → H) :
    ReturnsInHanded {} Try.checked os 3 .any (Rows.refsLeastSpec.pre6 enc Try.prog Try.f3 Rows.refsLeastRow.domain false) (Rows.refsLeastSpec.post enc Try.prog Try.f3 false true false false) := by
  refine returnsInHanded_of_change_sized (C := Try.checked) Try.own started (by kernel_rfl) Try.func3
    (ChangeSpec.witness6 (enc := enc) (C := Try.checked) false ⟨#[], #[.int .i64 0, .slice none 0 0], []⟩ 8 (by kernel_rfl) (by kernel_rfl) (by kernel_rfl) (by kernel_rfl)) ?_
  intro W base args ds gs before hval hW _ _ _
  exact refsLeast_contract H enc W base args ds gs before hval hW

theorem refsLeast_holds : Rows.RefsLeastSaid :=
  OpenClaim.holds_of_wide 3 Try.f3 rfl rfl rfl rfl rfl rfl rfl ⟨rfl, rfl, rfl, rfl, rfl⟩ rfl rfl rfl rfl rfl (by kernel_rfl) Try.func3 (by kernel_rfl)
    (of_decide_eq_true (by kernel_rfl)) (by unfold Func.isWrapper; first | (rw [if_pos (by decide +kernel)]; kernel_rfl) | (rw [if_neg (by decide +kernel)]; exact ⟨rfl, rfl⟩))
    (fun os started H enc _ => refsLeast_lifted os started H enc)

#print axioms refsLeast_holds
end Go.Proofs.Ytlecdappgpbnlaa
