/-
  The document's answer for chunks: Trim, Full. No condition but that a text is not too long.
-/
import Derived.Test.YteogkgjajhdhjaaDoorInRefB
namespace Go.Proofs.YteogkgjajhdhjaaDoor
open Go.RowKit

theorem rtrim_at (l : List UInt8) : ∀ k, k ≤ l.length → (∀ (j : Nat) b, k ≤ j → l[j]? = some b → b = 0) →
    ∃ m, m ≤ k ∧ (∀ (j : Nat) b, m ≤ j → l[j]? = some b → b = 0) ∧ (∀ b, 0 < m → l[m - 1]? = some b → b ≠ 0)
  | 0, _, h => ⟨0, Nat.le_refl _, h, fun _ h => absurd h (by omega)⟩
  | k + 1, hk, h => by
    by_cases e : l[k]? = some 0
    · obtain ⟨m, h1, h2, h3⟩ := rtrim_at l k (by omega) (fun j b hj hb => by
        by_cases e2 : j = k
        · subst e2; rw [e] at hb; exact (Option.some.inj hb).symm
        · exact h j b (by omega) hb)
      exact ⟨m, by omega, h2, h3⟩
    · exact ⟨k + 1, Nat.le_refl _, h, fun b _ hb hz => e (by rw [← hz]; simpa using hb)⟩

theorem rbyte_at {s : ByteArray} {k : Nat} {b : UInt8} (h : s.data.toList[k]? = some b) (hk : k < s.size) : s[k]'hk = b := by
  have : k < s.data.size := hk
  rw [Array.getElem?_toList, Array.getElem?_eq_getElem this] at h
  exact Option.some.inj h

set_option maxRecDepth 100000 in
set_option maxHeartbeats 800000 in
theorem rtrim_any (s : ByteArray) (w : World) (hs : s.size ≤ 9223372036854775807) : Calls Tryd.prog 19 #[.string s] w fun e w' => e = .returned (.string (txt (In.trim s.data.toList))) ∧ w = w' := by
  have hl : s.data.toList.length = s.size := by rw [Array.length_toList]; rfl
  obtain ⟨l, hle⟩ : ∃ l, l = s.data.toList := ⟨_, rfl⟩
  rw [← hle] at hl
  have hlt : (l.take 32).length = min 32 s.size := by rw [List.length_take, hl]
  obtain ⟨m, h1, h2, h3⟩ := rtrim_at (l.take 32) (l.take 32).length (Nat.le_refl _) (fun j b hj hb => by rw [List.getElem?_eq_none hj] at hb; cases hb)
  have hT : In.trim l = l.take m := by
    unfold In.trim
    rw [Lib.trimRightB_take (l.take 32) 0 m h1 h2 (fun b h => h3 b h), List.take_take, Nat.min_eq_left (by omega)]
  have hfin : s.extract 0 m = txt (In.trim s.data.toList) := by
    rw [← hle, hT]
    apply txt_of
    rw [Lib.extract_data, ← hle]
    simp
  have hz : ∀ j : Nat, m ≤ j → j < 32 → j < s.size → l[j]? = some 0 := fun j a b c => by
    have h4 : (l.take 32)[j]? = some ((l.take 32)[j]'(by omega)) := List.getElem?_eq_getElem (by omega)
    have h5 := h2 j _ a h4
    rw [h5, List.getElem?_take, if_pos b] at h4
    exact h4
  have hn : 0 < m → ∃ b, l[m - 1]? = some b ∧ ¬ b.toNat = 0 := fun h => by
    have h4 : (l.take 32)[m - 1]? = some ((l.take 32)[m - 1]'(by omega)) := List.getElem?_eq_getElem (by omega)
    have h5 := h3 _ h h4
    rw [List.getElem?_take, if_pos (by omega)] at h4
    exact ⟨_, h4, fun e => h5 (by rw [← UInt8.toNat_inj]; exact e)⟩
  rw [hle] at hz hn
  rw [hlt] at h1
  have hm32 : m ≤ 32 ∧ m ≤ s.size := ⟨Nat.le_trans h1 (Nat.min_le_left _ _), Nat.le_trans h1 (Nat.min_le_right _ _)⟩
  obtain ⟨hm1, hm2⟩ := hm32
  have FIN := Lib.hid hfin
  have HZ := Lib.hid hz
  have HN := Lib.hid hn
  clear hl hle hlt h1 h2 h3 hT hfin hz hn l
  go_enter Tryd.func19, Tryd.ntmps19
  go_wp2
  go_loopw [3] (fun i wr => ∃ k : Nat, i = .int .i64 k ∧ m ≤ k ∧ k ≤ 32 ∧ k ≤ s.size ∧ w = wr) (fun i _ => (intOf i).toNat)
  case atStart =>
    refine ⟨min s.size 32, ?_, by omega, by omega, by omega, rfl⟩
    congr 1
    omega
  case round =>
    obtain ⟨k, rfl, hmk, hk, hks, rfl⟩ := hrel
    by_cases hk0 : 0 < k
    · have hk0I : (0 : Int) < (k : Int) := by omega
      have hsub : IntKind.i64.wrap ((k : Int) - 1) = ((k - 1 : Nat) : Int) := by rw [IntWalk.i64_in _ (by omega)]; omega
      have hkl : k - 1 < s.size := by omega
      by_cases hkm : m < k
      · have hb0 := rbyte_at (HZ.out (k - 1) (by omega) (by omega) hkl) hkl
        go_wp2
        go_roundw
        case rel => exact ⟨k - 1, rfl, by omega, by omega, by omega, by first | rfl | trivial⟩
        case measure => simp [intOf]; omega
      · obtain rfl : k = m := by omega
        obtain ⟨b, hb, hbn⟩ := HN.out hk0
        have hb0 := rbyte_at hb hkl
        clear hb
        go_wp2
        go_ret
        exact ⟨by rw [FIN.out]; rfl, rfl⟩
    · obtain rfl : k = 0 := by omega
      obtain rfl : m = 0 := by omega
      go_wp2
      go_ret
      have hE : ByteArray.empty = txt (In.trim s.data.toList) := by rw [← FIN.out]; simp
      exact ⟨by rw [hE]; rfl, rfl⟩

set_option maxRecDepth 100000 in
set_option maxHeartbeats 800000 in
theorem rfull_any (s : ByteArray) (w : World) (hs : s.size ≤ 9223372036854775807) : Calls Tryd.prog 20 #[.string s] w fun e w' => e = .returned (.string (txt (In.full s.data.toList))) ∧ Keep [] w w' := by
  have he := ext32 s
  obtain ⟨t, ht⟩ : ∃ t, t = s.extract 0 (min (s.size : Int) 32).toNat := ⟨_, rfl⟩
  have hl : s.data.toList.length = s.size := by rw [Array.length_toList]; rfl
  rw [← ht] at he
  have htl : t.data.toList.length = t.size := by rw [Array.length_toList]; rfl
  have hts : t.size = min 32 s.size := by rw [← htl, he, List.length_take, hl]
  obtain ⟨q, hq⟩ : ∃ q : Nat, q = 32 - t.size := ⟨_, rfl⟩
  have hsub : IntKind.i64.wrap (32 - (t.size : Int)) = (q : Int) := by rw [IntWalk.i64_in _ (by omega)]; omega
  obtain ⟨i0, hi, hz0, hz1, hz2⟩ := info_parts Tryd.info5
  obtain ⟨w1, hmk, o1, g1⟩ := run_makeSlice_full (P := Tryd.prog) w 0 43 5 i0 _ 1 Tryd.underlying43 hi hz0 hz1 .i64 .i64 q (by omega) (by rw [hz2]; omega) (by unfold maxLen; omega) (Nat.zero_le _)
  rw [show (Value.int .u8 0).cells = #[Value.int .u8 0] from rfl, toList_madeCells_one, show List.replicate (q * 1) (Value.int .u8 0) = bv (List.replicate q 0) by simp [bv]] at o1
  have hcv := conv_str (v := .slice (some ⟨w.heap.size, 0, none⟩) q q) (l := List.replicate q 0) (w := w1) (by rw [List.length_replicate]; exact RdV.ofOwn o1)
  have k1 : Keep [] w w1 := (Keep.refl _ _).grown g1 (fun k h => by cases h)
  have hfin : t ++ txt (List.replicate q 0) = txt (In.full s.data.toList) := by
    apply txt_of
    have hq2 : q = 32 - s.data.toList.length := by omega
    simp [In.full, he, hq2, txt]
  have FIN := Lib.hid hfin
  have HT := Lib.hid ht
  have hlr : (txt (List.replicate q (0 : UInt8))).size = q := by rw [txt_len, List.length_replicate]
  have hsum : ¬ 9223372036854775807 < t.size + q := by omega
  clear he hl htl hq hts hi hz0 hz1 hz2 o1 g1 hfin ht
  go_enter Tryd.func20, Tryd.ntmps20
  go_upto_region 2 with fail
  rw [← HT.out]
  go_wp2
  go_ret
  exact ⟨by rw [FIN.out]; rfl, k1⟩
end Go.Proofs.YteogkgjajhdhjaaDoor
